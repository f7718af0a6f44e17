/- What the reference's Valid, ValidEnv, Few, S. -/
import Derived.Test.YtncjeamdkjcebaaGreatDoorYAr3
set_option linter.all false
set_option maxHeartbeats 8000000
set_option maxRecDepth 100000
namespace Go.Proofs.YtncjeamdkjcebaaGreatDoor
open Go.RowKit
def RVa(z k n3 _n4 b3 o3 _b4 _o4 c3 _c4 l1 _l2 e1 _e2:Nat)(a1 _a2:Option Addr)(mi mo:Int)(_r2:Bool)(ix:Nat)(u:Value)(_:World):Prop:=
 match ix with
 |0=>u=.pointer (some ⟨z,3,none⟩)
 |1=>u=.slice (some ⟨b3,o3,none⟩) n3 c3
 |2=>u=.int .i64 (k:Int)
 |3=>u=.pointer (some ⟨b3,o3+k,none⟩)
 |4=>u=.slice a1 l1 e1
 |5=>u=.pointer (some ⟨z,0,none⟩)
 |6=>u=.int .i64 mi
 |7=>u=.pointer (some ⟨z,1,none⟩)
 |8=>u=.int .i64 mo
 |9=>u=.bool false
 |10|11|22=>u=.bool true
 |12|13|14|15|16|17|18|19|20|21=>u=undef
 | _=>True
def RVb(z k n3 n4 b3 o3 b4 o4 c3 c4 l1 l2 e1 e2:Nat)(a1 a2:Option Addr)(mi mo:Int)(r2:Bool)(ix:Nat)(u:Value)(_:World):Prop:=
 match ix with
 |0=>u=.pointer (some ⟨z,3,none⟩)
 |1=>u=.slice (some ⟨b3,o3,none⟩) n3 c3
 |2|14=>u=.int .i64 (k:Int)
 |3=>u=.pointer (some ⟨b3,o3+k,none⟩)
 |4=>u=.slice a1 l1 e1
 |5|17=>u=.pointer (some ⟨z,0,none⟩)
 |6|18=>u=.int .i64 mi
 |7=>u=.pointer (some ⟨z,1,none⟩)
 |8=>u=.int .i64 mo
 |9=>u=.bool true
 |10|11=>u=.bool false
 |12=>u=.pointer (some ⟨z,4,none⟩)
 |13=>u=.slice (some ⟨b4,o4,none⟩) n4 c4
 |15=>u=.pointer (some ⟨b4,o4+k,none⟩)
 |16=>u=.slice a2 l2 e2
 |19=>u=.int .i64 (n4:Int)
 |20=>u=.bool r2
 |21|22=>u=.bool (!r2)
 | _=>True
theorem DI(w:World)(x n:Int):Calls Tryz.prog 46 #[.int .i64 x,.int .i64 n] w (fun e w'=>e=.returned (.bool (decide (0<=x)&&decide (x<n)))/\w=w'):=by
 by_cases h0:0<=x
 ·by_cases h1:x<n
  ·have HR:Hid ((decide (0<=x)&&decide (x<n))=true):=by show _=_;simp[h0,h1]
   generalize(decide (0<=x)&&decide (x<n))=R at*
   go_enter Tryz.func46,Tryz.ntmps46
   go_wp2;go_ret;exact⟨Du HR.out,rfl⟩
  ·have HR:Hid ((decide (0<=x)&&decide (x<n))=false):=by show _=_;simp[h1]
   generalize(decide (0<=x)&&decide (x<n))=R at*
   go_enter Tryz.func46,Tryz.ntmps46
   go_wp2;go_ret;exact⟨Aq HR.out,rfl⟩
 ·have HR:Hid ((decide (0<=x)&&decide (x<n))=false):=by show _=_;simp[h0]
  generalize(decide (0<=x)&&decide (x<n))=R at*
  go_enter Tryz.func46,Tryz.ntmps46
  go_wp2;go_ret;exact⟨Aq HR.out,rfl⟩
theorem N6(w:World)(vl:Value)(r:List Int)(a b:Int)(hl:Ah w vl r):
  Calls Tryz.prog 55 #[vl,.int .i64 a,.int .i64 b] w (Av (.bool (BG a b r)) w):=by
 obtain⟨ao,c,rfl⟩:=hl.shape;obtain⟨b0,o0,d0,n0,f0⟩:=hl.data
 by_cases hw:(r.length:Int)=a
 ·have tA:((r.length:Int) !=a)=false:=by simp[hw]
  have f:=Ab f0
  have o:Hid ((∀i,i<r.length->0<=r.getD i 0/\r.getD i 0<b)->BG a b r=true):=fun h=>BA.2 ⟨hw,h⟩
  have n:Hid (∀i,i<r.length->¬(0<=r.getD i 0/\r.getD i 0<b)->BG a b r=false):=fun i hi h=>by
   cases hb:BG a b r with
   |false=>rfl
   |true=>exact absurd ((BA.1 hb).2 i hi) h
  generalize BG a b r=R at*;subst hw;generalize hrl:r.length=rl at*;clear hrl f0 hl
  go_enter Tryz.func55,Tryz.ntmps55
  go_wp2_with fail
  go_loopg [7] rl (fun gh j wx=>∃jj:Nat,gh=rl-jj/\j=.int .i64 (jj:Int)/\jj<=rl/\Hid (∀i,i<jj->0<=r.getD i 0/\r.getD i 0<b)/\Hid (Below w.heap.size w wx))
  case atStart=>exact⟨0,rfl,rfl,by omega,fun i hi=>absurd hi (by omega),Ad⟩
  case round=>
   obtain⟨j,d,rfl,hj,HJ,HB⟩:=hrel;have k:=Ab d;clear d
   by_cases hjy:j<rl
   ·obtain rfl:=d0 (by omega)
    have q:(0:Int)<=(j:Int):=by omega
    have p:(j:Int)<(rl:Int):=by omega
    have cY:=Ag HB.out (f.out j hjy);have HN:=Ab (n.out j hjy)
    have m:Hid (0<=r.getD j 0/\r.getD j 0<b->∀i,i<j+1->0<=r.getD i 0/\r.getD i 0<b):=fun h i hi=>by
     rcases Nat.lt_or_ge i j with h1|h1
     ·exact HJ.out i h1
     ·obtain rfl:i=j:=by omega
      exact h
    generalize hy:r.getD j 0=y at*;clear hy
    go_wp2_with fail
    refine(DI _ _ _).mono ?_;rintro e w' ⟨rfl,rfl⟩
    by_cases h:0<=y/\y<b
    ·have hd:(decide (0<=y)&&decide (y<b))=true:=by simp[h.1,h.2]
     have l:=Ab (m.out h);rw[hd];clear hd h;go_wp2
     go_roundg (rl-(j+1))
     case measure=>have:=k.out;omega
     case rel=>exact⟨j+1,rfl,by go_num,by omega,l,HB⟩
    ·have hd:(decide (0<=y)&&decide (y<b))=false:=by rw[Bool.and_eq_false_iff,decide_eq_false_iff_not,decide_eq_false_iff_not];omega
     have HR:=Ab (HN.out h);rw[hd];clear hd h;go_wp2;go_ret;exact⟨Aq HR.out,HB.out⟩
   ·have p:¬(j:Int)<(rl:Int):=by omega
    have HR:=Ab (o.out fun i hi=>HJ.out i (by omega));go_wp2;go_ret;exact⟨Du HR.out,HB.out⟩
 ·have tA:((r.length:Int) !=a)=true:=by simp[hw]
  have HR:Hid (BG a b r=false):=by
   show _=_
   cases hb:BG a b r with
   |false=>rfl
   |true=>exact absurd (BA.1 hb).1 hw
  generalize BG a b r=R at*
  go_enter Tryz.func55,Tryz.ntmps55
  go_wp2;go_ret;exact⟨Aq HR.out,(by repeat(first|exact Ad|assumption|apply AE|apply AB))⟩
def Fv(most:Int)(ll:List (List Int)):Bool:=decide ((ll.length:Int)<=most)&&ll.all fun l=>decide (l.length<=64)
theorem Lp{a:Int}{ll:List (List Int)}:Fv a ll=true↔(ll.length:Int)<=a/\∀i,i<ll.length->(ll.getD i []).length<=64:=by
 unfold Fv;rw[Bool.and_eq_true,decide_eq_true_eq,List.all_eq_true]
 constructor
 ·rintro⟨h1,h⟩;refine⟨h1,fun i hi=> ?_⟩;have:=h _ (List.getElem_mem hi);rw[Ae ll [] i hi];simpa using this
 ·rintro⟨h1,h⟩;refine⟨h1,fun l hl=> ?_⟩;obtain⟨i,hi,rfl⟩:=List.mem_iff_getElem.1 hl;have:=h i hi;rw[Ae ll [] i hi]at this;simpa using this
theorem Hp(w:World)(vl:Value)(ll:List (List Int))(a:Int)(hl:Ar w vl ll):
  Calls Tryz.prog 44 #[vl,.int .i64 a] w (Av (.bool (Fv a ll)) w):=by
 obtain⟨ao,c,rfl⟩:=hl.shape;obtain⟨b0,o0,d0,n0,f0⟩:=hl.dat2;have l:=Ab f0;have HI:Hid (Fv a ll=true↔(ll.length:Int)<=a/\∀i,i<ll.length->(ll.getD i []).length<=64):=Lp;clear f0 hl;generalize hn:ll.length=n at*;clear hn;generalize Fv a ll=R at*
 by_cases hw:a<(n:Int)
 ·have HR:Hid (R=false):=by
   show _=_
   cases hb:R with
   |false=>rfl
   |true=>have:=(HI.out.1 hb).1;omega
  go_enter Tryz.func44,Tryz.ntmps44
  go_wp2;go_ret;exact⟨Aq HR.out,(by repeat(first|exact Ad|assumption|apply AE|apply AB))⟩
 ·go_enter Tryz.func44,Tryz.ntmps44
  go_wp2_with fail
  go_loopg [5] n (fun gh i wr=>∃k:Nat,gh=n-k/\i=.int .i64 (k:Int)/\k<=n/\Hid (∀i,i<k->(ll.getD i []).length<=64)/\Hid (Below w.heap.size w wr))
  case atStart=>exact⟨0,rfl,rfl,by omega,fun i hi=>absurd hi (by omega),Ad⟩
  case round=>
   obtain⟨k,d,rfl,hk,HA,HB⟩:=hrel;have m:=Ab d;clear d
   by_cases hlt:k<n
   ·obtain rfl:=d0 (by omega)
    have p:(0:Int)<=(k:Int):=by omega
    have o:(k:Int)<(n:Int):=by omega
    obtain⟨ar,cr,c1,e⟩:=l.out k hlt;replace c1:=Ag HB.out c1
    have b:Hid (¬(ll.getD k []).length<=64->R=false):=fun h=>by
     cases hb:R with
     |false=>rfl
     |true=>exact absurd ((HI.out.1 hb).2 k hlt) h
    have j:Hid ((ll.getD k []).length<=64->∀i,i<k+1->(ll.getD i []).length<=64):=fun h i hi=>by
     rcases Nat.lt_or_ge i k with h1|h1
     ·exact HA.out i h1
     ·obtain rfl:i=k:=by omega
      exact h
    clear e;generalize(ll.getD k []).length=rl at*
    by_cases h64:(64:Int)<(rl:Int)
    ·have HR:=Ab (b.out (by omega));go_wp2;go_ret;exact⟨Aq HR.out,HB.out⟩
    ·have f:=Ab (j.out (by omega));go_wp2
     go_roundg (n-(k+1))
     case measure=>have:=m.out;omega
     case rel=>exact⟨k+1,rfl,by go_num,by omega,f,HB⟩
   ·have o:¬(k:Int)<(n:Int):=by omega
    have HR:Hid (R=true):=HI.out.2 ⟨by omega,fun i hi=>HA.out i (by omega)⟩;go_wp2;go_ret;exact⟨Du HR.out,HB.out⟩
def MM(m:My)(most:Int):Bool:=Fv most m.out&&Fv most m.next
theorem SD(w:World)(v:Value)(m:My)(a:Int)(hm:BB w v m):Calls Tryz.prog 9 #[v,.int .i64 a] w (Av (.bool (MM m a)) w):=by
 obtain⟨v3,v4,rfl,hI,h3,h4⟩:=hm;obtain⟨a3,c3,rfl⟩:=h3.shape;obtain⟨a4,c4,rfl⟩:=h4.shape;obtain⟨b3,o3,d3,m3,-⟩:=h3.dat2;obtain⟨b4,o4,d4,m4,-⟩:=h4.dat2;clear d3 d4;have HV:Hid (MM m a=(Fv a m.out&&Fv a m.next)):=rfl
 have b:Hid (∀W,Below w.heap.size w W->Calls Tryz.prog 44 #[.slice a3 m.out.length c3,.int .i64 a] W (Av (.bool (Fv a m.out)) W)):=fun W hb=>Hp W _ _ _ (h3.below hb)
 have c:Hid (∀W,Below w.heap.size w W->Calls Tryz.prog 44 #[.slice a4 m.next.length c4,.int .i64 a] W (Av (.bool (Fv a m.next)) W)):=fun W hb=>Hp W _ _ _ (h4.below hb)
 clear h3 h4;generalize Fv a m.out=R1 at*;generalize Fv a m.next=R2 at*;generalize m.out.length=n3 at*;generalize m.next.length=n4 at*;generalize m.ins=mi at*;generalize m.outs=mo at*;generalize m.start=ms at*;generalize MM m a=R at*
 go_enter Tryz.func9,Tryz.ntmps9
 go_upto_region 1 with(fail)
 obtain⟨hx,-,hB⟩:=Aw (w0:=w) Ad leR #[.int .i64 mi,.int .i64 mo,.int .i64 ms,.slice a3 n3 c3,.slice a4 n4 c4] 25;generalize w.alloc (.cells #[.int .i64 mi,.int .i64 mo,.int .i64 ms,.slice a3 n3 c3,.slice a4 n4 c4] 25)=w1 at*;have k3:=Aa 3 hx;have k4:=Aa 4 hx
 go_wp2_with fail
 refine(b.out _ hB).mono ?_;rintro e w2 ⟨rfl,hb⟩;replace hx:=B8 hb hx;replace hB:=hB.trans (hb.mono hB.size);clear hb k3 k4;have k4:=Aa 4 hx
 cases R1 with
 |false=>
  have HR:Hid (R=false):=by show _=_;have:=HV.out;simpa using this
  clear HV
  go_wp2_with fail
  go_ret;exact⟨Aq HR.out,hB⟩
 |true=>
  have HR:Hid (R=R2):=by show _=_;have:=HV.out;simpa using this
  clear HV
  go_wp2_with fail
  refine(c.out _ hB).mono ?_;rintro e w3 ⟨rfl,hb⟩;replace hB:=hB.trans (hb.mono hB.size);clear hb k4 c b
  go_wp2_with fail
  go_ret;exact⟨Ak (by rw[HR.out]),hB⟩
def Oy(m:Mo)(most:Int):Bool:=decide ((m.inn.length:Int)<=most)&&Fv most m.next
theorem SX(w:World)(v:Value)(m:Mo)(a:Int)(hm:Dy w v m):Calls Tryz.prog 10 #[v,.int .i64 a] w (Av (.bool (Oy m a)) w):=by
 obtain⟨v3,v4,rfl,hI,h3,h4⟩:=hm;obtain⟨a3,c3,rfl⟩:=h3.shape;obtain⟨a4,c4,rfl⟩:=h4.shape;obtain⟨b3,o3,d3,m3,-⟩:=h3.data;obtain⟨b4,o4,d4,m4,-⟩:=h4.dat2;clear d3 d4;have HV:Hid (Oy m a=(decide ((m.inn.length:Int)<=a)&&Fv a m.next)):=rfl
 have b:Hid (∀W,Below w.heap.size w W->Calls Tryz.prog 44 #[.slice a4 m.next.length c4,.int .i64 a] W (Av (.bool (Fv a m.next)) W)):=fun W hb=>Hp W _ _ _ (h4.below hb)
 clear h3 h4;generalize Fv a m.next=R2 at*;generalize m.inn.length=n3 at*;generalize m.next.length=n4 at*;generalize m.ins=mi at*;generalize m.outs=mo at*;generalize m.start=ms at*;generalize Oy m a=R at*
 go_enter Tryz.func10,Tryz.ntmps10
 go_upto_region 1 with(fail)
 obtain⟨hx,-,hB⟩:=Aw (w0:=w) Ad leR #[.int .i64 mi,.int .i64 mo,.int .i64 ms,.slice a3 n3 c3,.slice a4 n4 c4] 28;generalize w.alloc (.cells #[.int .i64 mi,.int .i64 mo,.int .i64 ms,.slice a3 n3 c3,.slice a4 n4 c4] 28)=w1 at*;have k3:=Aa 3 hx;have k4:=Aa 4 hx
 by_cases hn:(n3:Int)<=a
 ·have HR:Hid (R=R2):=by show _=_;have:=HV.out;rw[decide_eq_true hn]at this;simpa using this
  clear HV
  go_wp2_with fail
  refine(b.out _ hB).mono ?_;rintro e w3 ⟨rfl,hb⟩;replace hB:=hB.trans (hb.mono hB.size);clear hb k3 k4 b
  go_wp2_with fail
  go_ret;exact⟨Ak (by rw[HR.out]),hB⟩
 ·have HR:Hid (R=false):=by show _=_;have:=HV.out;rw[decide_eq_false hn]at this;simpa using this
  clear HV
  go_wp2_with fail
  go_ret;exact⟨Aq HR.out,hB⟩
theorem Hj(w:World)(v:Value)(m:My)(hm:BB w v m):Calls Tryz.prog 19 #[v] w (Av (.bool (A5 m)) w):=by
 have af:Tryz.prog.follows .mixedOrders=true:=by kernel_rfl
 obtain⟨v3,v4,rfl,hI,h3,h4⟩:=hm;obtain⟨a3,c3,rfl⟩:=h3.shape;obtain⟨a4,c4,rfl⟩:=h4.shape;obtain⟨b3,o3,d3,m3,f3⟩:=h3.dat2;obtain⟨b4,o4,d4,m4,f4⟩:=h4.dat2;have c:=Ab f3;have d:=Ab f4;have H3:=Ab h3;clear f3 f4 h3 h4;have HI:Hid (A5 m=true↔MyV m):=Fd
 have a:Hid (¬MyV m->A5 m=false):=fun h=>by
  cases hb:A5 m with
  |false=>rfl
  |true=>exact absurd (HI.out.1 hb) h
 by_cases g0:1<=m.ins
 case neg=>
  have HR:=Ab (a.out fun h=>by exact g0 h.i1)
  replace g0:m.ins<1:=by omega
  clear HI a c d H3;generalize A5 m=R at*;generalize m.out.length=n3 at*;generalize m.next.length=n4 at*;generalize m.ins=mi at*;generalize m.outs=mo at*;generalize m.start=ms at*
  go_enter Tryz.func19,Tryz.ntmps19
  go_upto_region 1 with(fail)
  obtain⟨hx,-,hB⟩:=Aw (w0:=w) Ad leR #[.int .i64 mi,.int .i64 mo,.int .i64 ms,.slice a3 n3 c3,.slice a4 n4 c4] 25;generalize w.alloc (.cells #[.int .i64 mi,.int .i64 mo,.int .i64 ms,.slice a3 n3 c3,.slice a4 n4 c4] 25)=w1 at*;have k0:=Aa 0 hx;have k1:=Aa 1 hx;have k2:=Aa 2 hx;have k3:=Aa 3 hx;have k4:=Aa 4 hx
  go_wp2_with fail
  go_ret;exact⟨Aq HR.out,hB⟩
 have bu:¬m.ins<1:=by omega
 by_cases g1:m.ins<=64
 case neg=>
  have HR:=Ab (a.out fun h=>by exact g1 h.i2)
  replace g1:64<m.ins:=by omega
  clear HI a c d H3;generalize A5 m=R at*;generalize m.out.length=n3 at*;generalize m.next.length=n4 at*;generalize m.ins=mi at*;generalize m.outs=mo at*;generalize m.start=ms at*
  go_enter Tryz.func19,Tryz.ntmps19
  go_upto_region 1 with(fail)
  obtain⟨hx,-,hB⟩:=Aw (w0:=w) Ad leR #[.int .i64 mi,.int .i64 mo,.int .i64 ms,.slice a3 n3 c3,.slice a4 n4 c4] 25;generalize w.alloc (.cells #[.int .i64 mi,.int .i64 mo,.int .i64 ms,.slice a3 n3 c3,.slice a4 n4 c4] 25)=w1 at*;have k0:=Aa 0 hx;have k1:=Aa 1 hx;have k2:=Aa 2 hx;have k3:=Aa 3 hx;have k4:=Aa 4 hx
  go_wp2_with fail
  go_ret;exact⟨Aq HR.out,hB⟩
 have bv:¬64<m.ins:=by omega
 by_cases g2:1<=m.outs
 case neg=>
  have HR:=Ab (a.out fun h=>by exact g2 h.o1)
  replace g2:m.outs<1:=by omega
  clear HI a c d H3;generalize A5 m=R at*;generalize m.out.length=n3 at*;generalize m.next.length=n4 at*;generalize m.ins=mi at*;generalize m.outs=mo at*;generalize m.start=ms at*
  go_enter Tryz.func19,Tryz.ntmps19
  go_upto_region 1 with(fail)
  obtain⟨hx,-,hB⟩:=Aw (w0:=w) Ad leR #[.int .i64 mi,.int .i64 mo,.int .i64 ms,.slice a3 n3 c3,.slice a4 n4 c4] 25;generalize w.alloc (.cells #[.int .i64 mi,.int .i64 mo,.int .i64 ms,.slice a3 n3 c3,.slice a4 n4 c4] 25)=w1 at*;have k0:=Aa 0 hx;have k1:=Aa 1 hx;have k2:=Aa 2 hx;have k3:=Aa 3 hx;have k4:=Aa 4 hx
  go_wp2_with fail
  go_ret;exact⟨Aq HR.out,hB⟩
 have bw:¬m.outs<1:=by omega
 by_cases g3:m.outs<=64
 case neg=>
  have HR:=Ab (a.out fun h=>by exact g3 h.o2)
  replace g3:64<m.outs:=by omega
  clear HI a c d H3;generalize A5 m=R at*;generalize m.out.length=n3 at*;generalize m.next.length=n4 at*;generalize m.ins=mi at*;generalize m.outs=mo at*;generalize m.start=ms at*
  go_enter Tryz.func19,Tryz.ntmps19
  go_upto_region 1 with(fail)
  obtain⟨hx,-,hB⟩:=Aw (w0:=w) Ad leR #[.int .i64 mi,.int .i64 mo,.int .i64 ms,.slice a3 n3 c3,.slice a4 n4 c4] 25;generalize w.alloc (.cells #[.int .i64 mi,.int .i64 mo,.int .i64 ms,.slice a3 n3 c3,.slice a4 n4 c4] 25)=w1 at*;have k0:=Aa 0 hx;have k1:=Aa 1 hx;have k2:=Aa 2 hx;have k3:=Aa 3 hx;have k4:=Aa 4 hx
  go_wp2_with fail
  go_ret;exact⟨Aq HR.out,hB⟩
 have bx:¬64<m.outs:=by omega
 by_cases g4:1<=m.next.length
 case neg=>
  have HR:=Ab (a.out fun h=>by have:=h.s1;have:=h.s0;have:=h.nl;omega)
  have ad:(m.next.length:Int)<1:=by omega
  clear HI a c d H3;generalize A5 m=R at*;generalize m.out.length=n3 at*;generalize m.next.length=n4 at*;generalize m.ins=mi at*;generalize m.outs=mo at*;generalize m.start=ms at*
  go_enter Tryz.func19,Tryz.ntmps19
  go_upto_region 1 with(fail)
  obtain⟨hx,-,hB⟩:=Aw (w0:=w) Ad leR #[.int .i64 mi,.int .i64 mo,.int .i64 ms,.slice a3 n3 c3,.slice a4 n4 c4] 25;generalize w.alloc (.cells #[.int .i64 mi,.int .i64 mo,.int .i64 ms,.slice a3 n3 c3,.slice a4 n4 c4] 25)=w1 at*;have k0:=Aa 0 hx;have k1:=Aa 1 hx;have k2:=Aa 2 hx;have k3:=Aa 3 hx;have k4:=Aa 4 hx
  go_wp2_with fail
  go_ret;exact⟨Aq HR.out,hB⟩
 by_cases g5:m.next.length<=3000
 case neg=>
  have HR:=Ab (a.out fun h=>by have:=h.n;have:=h.nl;omega)
  have ba:3000<(m.next.length:Int):=by omega
  have ad:¬(m.next.length:Int)<1:=by omega
  clear HI a c d H3;generalize A5 m=R at*;generalize m.out.length=n3 at*;generalize m.next.length=n4 at*;generalize m.ins=mi at*;generalize m.outs=mo at*;generalize m.start=ms at*
  go_enter Tryz.func19,Tryz.ntmps19
  go_upto_region 1 with(fail)
  obtain⟨hx,-,hB⟩:=Aw (w0:=w) Ad leR #[.int .i64 mi,.int .i64 mo,.int .i64 ms,.slice a3 n3 c3,.slice a4 n4 c4] 25;generalize w.alloc (.cells #[.int .i64 mi,.int .i64 mo,.int .i64 ms,.slice a3 n3 c3,.slice a4 n4 c4] 25)=w1 at*;have k0:=Aa 0 hx;have k1:=Aa 1 hx;have k2:=Aa 2 hx;have k3:=Aa 3 hx;have k4:=Aa 4 hx
  go_wp2_with fail
  go_ret;exact⟨Aq HR.out,hB⟩
 have ad:¬(m.next.length:Int)<1:=by omega
 have ba:¬3000<(m.next.length:Int):=by omega
 by_cases g6:m.out.length=m.next.length
 case neg=>
  have HR:=Ab (a.out fun h=>g6 h.nl.symm)
  have bb:((m.out.length:Int) !=(m.next.length:Int))=true:=by simp;omega
  clear HI a c d H3 g6;generalize A5 m=R at*;generalize m.out.length=n3 at*;generalize m.next.length=n4 at*;generalize m.ins=mi at*;generalize m.outs=mo at*;generalize m.start=ms at*
  go_enter Tryz.func19,Tryz.ntmps19
  go_upto_region 1 with(fail)
  obtain⟨hx,-,hB⟩:=Aw (w0:=w) Ad leR #[.int .i64 mi,.int .i64 mo,.int .i64 ms,.slice a3 n3 c3,.slice a4 n4 c4] 25;generalize w.alloc (.cells #[.int .i64 mi,.int .i64 mo,.int .i64 ms,.slice a3 n3 c3,.slice a4 n4 c4] 25)=w1 at*;have k0:=Aa 0 hx;have k1:=Aa 1 hx;have k2:=Aa 2 hx;have k3:=Aa 3 hx;have k4:=Aa 4 hx
  go_wp2_with fail
  go_ret;exact⟨Aq HR.out,hB⟩
 have bb:((m.out.length:Int) !=(m.next.length:Int))=false:=by simp;omega
 have p:=Ab g6
 by_cases g7:0<=m.start/\m.start<m.next.length
 case neg=>
  have HR:=Ab (a.out fun h=>g7 ⟨h.s0,by have:=h.s1;omega⟩)
  have hd:(decide (0<=m.start)&&decide (m.start<(m.next.length:Int)))=false:=by rw[Bool.and_eq_false_iff,decide_eq_false_iff_not,decide_eq_false_iff_not];omega
  clear HI a c d H3 g6 p g7;generalize A5 m=R at*;generalize m.out.length=n3 at*;generalize m.next.length=n4 at*;generalize m.ins=mi at*;generalize m.outs=mo at*;generalize m.start=ms at*
  go_enter Tryz.func19,Tryz.ntmps19
  go_upto_region 1 with(fail)
  obtain⟨hx,-,hB⟩:=Aw (w0:=w) Ad leR #[.int .i64 mi,.int .i64 mo,.int .i64 ms,.slice a3 n3 c3,.slice a4 n4 c4] 25;generalize w.alloc (.cells #[.int .i64 mi,.int .i64 mo,.int .i64 ms,.slice a3 n3 c3,.slice a4 n4 c4] 25)=w1 at*;have k0:=Aa 0 hx;have k1:=Aa 1 hx;have k2:=Aa 2 hx;have k3:=Aa 3 hx;have k4:=Aa 4 hx
  go_wp2_with fail
  refine(DI _ ms n4).mono ?_;rintro e w' ⟨rfl,rfl⟩;rw[hd]
  go_wp2_with fail
  go_ret;exact⟨Aq HR.out,hB⟩
 have hd:(decide (0<=m.start)&&decide (m.start<(m.next.length:Int)))=true:=by simp[g7.1,g7.2]
 have HV:Hid ((∀i,i<m.next.length->BG m.ins m.outs (m.out.getD i [])=true/\BG m.ins m.next.length (m.next.getD i [])=true)->A5 m=true):=fun h=>by
  have hl:m.next.length=m.out.length:=p.out.symm;exact HI.out.2 ⟨by omega,by omega,by omega,by omega,by omega,g7.1,by omega,hl,fun i hi=>BA.1 (h i (by omega)).1,fun i hi=>by rw[<-hl];exact BA.1 (h i (by omega)).2⟩
 have ab:Hid (∀i,i<m.next.length->¬(BG m.ins m.outs (m.out.getD i [])=true/\BG m.ins m.next.length (m.next.getD i [])=true)->A5 m=false):=fun i hi hno=>by
  have hl:m.next.length=m.out.length:=p.out.symm
  refine a.out fun h=>hno ⟨BA.2 (h.out i (by omega)),BA.2 ?_⟩
  rw[hl];exact h.nxt i (by omega)
 clear HI a H3 g7 g6;generalize A5 m=R at*;generalize m.out.length=n3 at*;generalize m.next.length=n4 at*;generalize m.ins=mi at*;generalize m.outs=mo at*;generalize m.start=ms at*;have ag:=p.out;subst ag
 go_enter Tryz.func19,Tryz.ntmps19
 go_upto_region 1 with(fail)
 obtain⟨hx,-,hB⟩:=Aw (w0:=w) Ad leR #[.int .i64 mi,.int .i64 mo,.int .i64 ms,.slice a3 n3 c3,.slice a4 n3 c4] 25;generalize w.alloc (.cells #[.int .i64 mi,.int .i64 mo,.int .i64 ms,.slice a3 n3 c3,.slice a4 n3 c4] 25)=w1 at*;have k0:=Aa 0 hx;have k1:=Aa 1 hx;have k2:=Aa 2 hx;have k3:=Aa 3 hx;have k4:=Aa 4 hx
 go_wp2_with fail
 refine(DI _ ms n3).mono ?_;rintro e w' ⟨rfl,rfl⟩;rw[hd];clear hd k0 k1 k2 k3 k4 p g0 g1 g2 g3 g4 g5;have HX:=Ab hx;have f:=Ab hB;clear hx hB
 go_wp2_with fail
 go_loopg [4] n3 (fun gh i wr=>∃k:Nat,gh=n3-k/\i=.int .i64 (k:Int)/\k<=n3/\Hid (∀i,i<k->BG mi mo (m.out.getD i [])=true/\BG mi n3 (m.next.getD i [])=true)/\Hid (Below w1.heap.size w1 wr))
 case atStart=>exact⟨0,rfl,rfl,by omega,fun i hi=>absurd hi (by omega),Ad⟩
 case round=>
  obtain⟨k,ae,rfl,hk,HA,HB⟩:=hrel;have a0:=Ab ae;clear ae
  by_cases hlt:k<n3
  ·obtain rfl:=d3 (by omega);obtain rfl:=d4 (by omega)
   have bz:(0:Int)<=(k:Int):=by omega
   have bc:(k:Int)<(n3:Int):=by omega
   obtain⟨a1,e1,x,ah⟩:=c.out k hlt;obtain⟨a2,e2,y,ai⟩:=d.out k hlt;have l:=Ab (f.out.trans (HB.out.mono f.out.size));replace x:=Ag l.out x;replace y:=Ag l.out y;have q:=(HB.out.block _ (Array.getElem?_eq_some_iff.1 HX.out).1).trans HX.out;have q0:=Aa 0 q;have q1:=Aa 1 q;have q3:=Aa 3 q;have q4:=Aa 4 q
   have b:Hid (∀W,Below wr.drew.heap.size wr.drew W->Below wr.heap.size wr W):=fun W h=>(Below.drew (B:=wr.heap.size) Ad).trans h
   have u:Hid (∀W,Below wr.drew.heap.size wr.drew W->Calls Tryz.prog 55 #[.slice a1 (m.out.getD k []).length e1,.int .i64 mi,.int .i64 mo] W (Av (.bool (BG mi mo (m.out.getD k []))) W)):=fun W h=>N6 W _ _ _ _ (ah.below (l.out.trans ((b.out W h).mono l.out.size)))
   have aa:Hid (∀W,Below wr.drew.heap.size wr.drew W->Calls Tryz.prog 55 #[.slice a2 (m.next.getD k []).length e2,.int .i64 mi,.int .i64 (n3:Int)] W (Av (.bool (BG mi n3 (m.next.getD k []))) W)):=fun W h=>N6 W _ _ _ _ (ai.below (l.out.trans ((b.out W h).mono l.out.size)))
   have ac:=Ab (ab.out k hlt)
   have ay:Hid (BG mi mo (m.out.getD k [])=true/\BG mi n3 (m.next.getD k [])=true->∀i,i<k+1->BG mi mo (m.out.getD i [])=true/\BG mi n3 (m.next.getD i [])=true):=fun h i hi=>by
    rcases Nat.lt_or_ge i k with h1|h1
    ·exact HA.out i h1
    ·obtain rfl:i=k:=by omega
     exact h
   clear ah ai q;generalize BG mi mo (m.out.getD k [])=r1 at*;generalize BG mi n3 (m.next.getD k [])=r2 at*;generalize(m.out.getD k []).length=l1 at*;generalize(m.next.getD k []).length=l2 at*
   have s:Hid (∀W,Below wr.drew.heap.size wr.drew W->W.cell? ⟨w.heap.size,0,none⟩=some (.int .i64 mi)/\W.cell? ⟨w.heap.size,1,none⟩=some (.int .i64 mo)/\W.cell? ⟨w.heap.size,3,none⟩=some (.slice (some ⟨b3,o3,none⟩) n3 c3)/\W.cell? ⟨w.heap.size,4,none⟩=some (.slice (some ⟨b4,o4,none⟩) n3 c4)/\W.cell? ⟨b3,o3+k,none⟩=some (.slice a1 l1 e1)/\W.cell? ⟨b4,o4+k,none⟩=some (.slice a2 l2 e2)):=fun W h=>⟨Ag (b.out W h) q0,Ag (b.out W h) q1,Ag (b.out W h) q3,Ag (b.out W h) q4,Ag (b.out W h) x,Ag (b.out W h) y⟩
   clear q0 q1 q3 q4 x y
   cases r1 with
   |false=>
    have HR:=Ab (ac.out fun h=>absurd h.1 (by decide))
    go_upto_region 7 with(fail)
    refine Be af (RVa w.heap.size k n3 n3 b3 o3 b4 o4 c3 c4 l1 l2 e1 e2 a1 a2 mi mo r2) (fun vs=>{tmps:=(_::_::_::_::_::_::_::_::_::_::_::_::_::_::_::_::_::_::_::_::_::_::_::_::_::_::_::_::_::_::_::_::_::_::_::_::_::_::_::_::_::_::_::_::_::_::_::_::_::_::_::_::_::vs 0::vs 1::vs 2::vs 3::vs 4::vs 5::vs 6::vs 7::vs 8::vs 9::vs 10::vs 11::vs 12::vs 13::vs 14::vs 15::vs 16::vs 17::vs 18::vs 19::vs 20::vs 21::vs 22::[]).toArray,defers:=_}) (fun n=>[u53,u54,u55,u56,u57,u58,u59,u60,u61,u62,u63,u64,u65,u66,u67,u68,u69,u70,u71,u72,u73,u74,u75].getD n undef) rfl (by kernel_rfl) (fun _ _ _ _ h _=>h) ?step ?fin
    case step=>
     intro ix o ho
     match ix,ho with
     |0,ho|2,ho|3,ho|5,ho|7,ho|10,ho|11,ho|12,ho|13,ho|14,ho|15,ho|16,ho|17,ho|18,ho|19,ho|20,ho|21,ho|22,ho=>
      obtain rfl:=osI ho;intro vs W K hB hD hK;have HK:=Ab hK
      try have e1:vs 1=.slice (some ⟨b3,o3,none⟩) n3 c3:=Ac hD 1 rfl
      try have e2:vs 2=.int .i64 (k:Int):=Ac hD 2 rfl
      try have e9:vs 9=.bool false:=Ac hD 9 rfl
      try have a5:vs 10=.bool true:=Ac hD 10 rfl
      try have z:vs 11=.bool true:=Ac hD 11 rfl
      try have a9:vs 21=undef:=Ac hD 21 rfl
      clear hK hD ho;dsimp only;go_simp;have h:=HK.out _ _ Ad rfl;simp only[upd,Nat.reduceEqDiff,reduceIte, *]at h;exact h
     |1,ho|4,ho|6,ho|8,ho=>
      obtain rfl:=osI ho;intro vs W K hB hD hK;have HK:=Ab hK
      try have e0:vs 0=.pointer (some ⟨w.heap.size,3,none⟩):=Ac hD 0 rfl
      try have e3:vs 3=.pointer (some ⟨b3,o3+k,none⟩):=Ac hD 3 rfl
      try have e5:vs 5=.pointer (some ⟨w.heap.size,0,none⟩):=Ac hD 5 rfl
      try have e7:vs 7=.pointer (some ⟨w.heap.size,1,none⟩):=Ac hD 7 rfl
      obtain⟨d0,d1,d2,d3,d4,d5⟩:=s.out W hB;clear hK hD ho;dsimp only;go_simp;have h:=HK.out _ _ Ad rfl;simp only[upd,Nat.reduceEqDiff,reduceIte, *]at h;exact h
     |9,ho=>
      obtain rfl:=osI ho;intro vs W K hB hD hK;have HK:=Ab hK;have e4:vs 4=.slice a1 l1 e1:=Ac hD 4 rfl;have e6:vs 6=.int .i64 mi:=Ac hD 6 rfl;have e8:vs 8=.int .i64 mo:=Ac hD 8 rfl;clear hK hD ho;dsimp only;go_simp;refine(u.out W hB).mono ?_;rintro e W' ⟨rfl,hb⟩;have h:=HK.out _ _ hb rfl;simp only[upd,Nat.reduceEqDiff,reduceIte,e4,e6,e8]at h;exact h
     |q+23,ho=>exact absurd ho (by simp)
    case fin=>
     intro vs wz hB j;have el:vs 22=.bool true:=j 22 (by decide);have r:=Ab (b.out wz hB);clear j hB b s u aa;rw[el];clear el;generalize vs 0=bd,vs 1=be,vs 2=bf,vs 3=bg,vs 4=bh,vs 5=bi,vs 6=bj,vs 7=bk,vs 8=bl,vs 9=bm,vs 10=aj,vs 11=ak,vs 12=al,vs 13=am,vs 14=an,vs 15=ao,vs 16=ap,vs 17=aq,vs 18=ar,vs 19=au,vs 20=av,vs 21=aw;clear vs;go_wp2;go_ret;exact⟨Aq HR.out,f.out.trans ((HB.out.trans (r.out.mono HB.out.size)).mono f.out.size)⟩
   |true=>
    go_upto_region 7 with(fail)
    refine Be af (RVb w.heap.size k n3 n3 b3 o3 b4 o4 c3 c4 l1 l2 e1 e2 a1 a2 mi mo r2) (fun vs=>{tmps:=(_::_::_::_::_::_::_::_::_::_::_::_::_::_::_::_::_::_::_::_::_::_::_::_::_::_::_::_::_::_::_::_::_::_::_::_::_::_::_::_::_::_::_::_::_::_::_::_::_::_::_::_::_::vs 0::vs 1::vs 2::vs 3::vs 4::vs 5::vs 6::vs 7::vs 8::vs 9::vs 10::vs 11::vs 12::vs 13::vs 14::vs 15::vs 16::vs 17::vs 18::vs 19::vs 20::vs 21::vs 22::[]).toArray,defers:=_}) (fun n=>[u53,u54,u55,u56,u57,u58,u59,u60,u61,u62,u63,u64,u65,u66,u67,u68,u69,u70,u71,u72,u73,u74,u75].getD n undef) rfl (by kernel_rfl) (fun _ _ _ _ h _=>h) ?step ?fin
    case step=>
     intro ix o ho
     match ix,ho with
     |0,ho|2,ho|3,ho|5,ho|7,ho|10,ho|11,ho|12,ho|14,ho|15,ho|17,ho|19,ho|21,ho|22,ho=>
      obtain rfl:=osI ho;intro vs W K hB hD hK;have HK:=Ab hK
      try have e1:vs 1=.slice (some ⟨b3,o3,none⟩) n3 c3:=Ac hD 1 rfl
      try have e2:vs 2=.int .i64 (k:Int):=Ac hD 2 rfl
      try have e9:vs 9=.bool true:=Ac hD 9 rfl
      try have a5:vs 10=.bool false:=Ac hD 10 rfl
      try have z:vs 11=.bool false:=Ac hD 11 rfl
      try have bo:vs 13=.slice (some ⟨b4,o4,none⟩) n3 c4:=Ac hD 13 rfl
      try have bp:vs 14=.int .i64 (k:Int):=Ac hD 14 rfl
      try have bs:vs 20=.bool r2:=Ac hD 20 rfl
      try have a9:vs 21=.bool (!r2):=Ac hD 21 rfl
      clear hK hD ho;dsimp only;go_simp;have h:=HK.out _ _ Ad rfl;simp only[upd,Nat.reduceEqDiff,reduceIte, *]at h;exact h
     |1,ho|4,ho|6,ho|8,ho|13,ho|16,ho|18,ho=>
      obtain rfl:=osI ho;intro vs W K hB hD hK;have HK:=Ab hK
      try have e0:vs 0=.pointer (some ⟨w.heap.size,3,none⟩):=Ac hD 0 rfl
      try have e3:vs 3=.pointer (some ⟨b3,o3+k,none⟩):=Ac hD 3 rfl
      try have e5:vs 5=.pointer (some ⟨w.heap.size,0,none⟩):=Ac hD 5 rfl
      try have e7:vs 7=.pointer (some ⟨w.heap.size,1,none⟩):=Ac hD 7 rfl
      try have z:vs 11=.bool false:=Ac hD 11 rfl
      try have bn:vs 12=.pointer (some ⟨w.heap.size,4,none⟩):=Ac hD 12 rfl
      try have bq:vs 15=.pointer (some ⟨b4,o4+k,none⟩):=Ac hD 15 rfl
      try have br:vs 17=.pointer (some ⟨w.heap.size,0,none⟩):=Ac hD 17 rfl
      obtain⟨d0,d1,d2,d3,d4,d5⟩:=s.out W hB;clear hK hD ho;dsimp only;go_simp;have h:=HK.out _ _ Ad rfl;simp only[upd,Nat.reduceEqDiff,reduceIte, *]at h;exact h
     |9,ho=>
      obtain rfl:=osI ho;intro vs W K hB hD hK;have HK:=Ab hK;have e4:vs 4=.slice a1 l1 e1:=Ac hD 4 rfl;have e6:vs 6=.int .i64 mi:=Ac hD 6 rfl;have e8:vs 8=.int .i64 mo:=Ac hD 8 rfl;clear hK hD ho;dsimp only;go_simp;refine(u.out W hB).mono ?_;rintro e W' ⟨rfl,hb⟩;have h:=HK.out _ _ hb rfl;simp only[upd,Nat.reduceEqDiff,reduceIte,e4,e6,e8]at h;exact h
     |20,ho=>
      obtain rfl:=osI ho;intro vs W K hB hD hK;have HK:=Ab hK;have z:vs 11=.bool false:=Ac hD 11 rfl;have a6:vs 16=.slice a2 l2 e2:=Ac hD 16 rfl;have a7:vs 18=.int .i64 mi:=Ac hD 18 rfl;have a8:vs 19=.int .i64 (n3:Int):=Ac hD 19 rfl;clear hK hD ho;dsimp only;go_simp;refine(aa.out W hB).mono ?_;rintro e W' ⟨rfl,hb⟩;have h:=HK.out _ _ hb rfl;simp only[upd,Nat.reduceEqDiff,reduceIte,z,a6,a7,a8]at h;exact h
     |q+23,ho=>exact absurd ho (by simp)
    case fin=>
     intro vs wz hB j;have el:vs 22=.bool (!r2):=j 22 (by decide);have r:=Ab (b.out wz hB);clear j hB b s u aa;rw[el];clear el;generalize vs 0=bd,vs 1=be,vs 2=bf,vs 3=bg,vs 4=bh,vs 5=bi,vs 6=bj,vs 7=bk,vs 8=bl,vs 9=bm,vs 10=aj,vs 11=ak,vs 12=al,vs 13=am,vs 14=an,vs 15=ao,vs 16=ap,vs 17=aq,vs 18=ar,vs 19=au,vs 20=av,vs 21=aw;clear vs
     cases r2 with
     |false=>
      have HR:=Ab (ac.out fun h=>absurd h.2 (by decide));go_wp2;go_ret;exact⟨Aq HR.out,f.out.trans ((HB.out.trans (r.out.mono HB.out.size)).mono f.out.size)⟩
     |true=>
      have ax:=Ab (ay.out ⟨rfl,rfl⟩);have az:=Ab (HB.out.trans (r.out.mono HB.out.size));go_wp2
      go_roundg (n3-(k+1))
      case measure=>have:=a0.out;omega
      case rel=>exact⟨k+1,rfl,by go_num,by omega,ax,az⟩
  ·have bc:¬(k:Int)<(n3:Int):=by omega
   have HR:=Ab (HV.out fun i hi=>HA.out i (by omega));go_wp2;go_ret;exact⟨Du HR.out,f.out.trans (HB.out.mono f.out.size)⟩
end Go.Proofs.YtncjeamdkjcebaaGreatDoor
