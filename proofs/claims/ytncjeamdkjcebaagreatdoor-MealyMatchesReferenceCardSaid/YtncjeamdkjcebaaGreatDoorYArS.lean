/- Signals. -/
import Derived.Deep.CutBlock
import Derived.RangeFuncNested
import Derived.RangeFuncBound
import Derived.RangeFuncCalls
import Derived.RangeFuncLeaves
import Derived.Shelf.Abstract
import Derived.Shelf.RegionOpen
import Derived.OwnWalkIn
import Derived.TacticsInMore
import Derived.LoopNIn
import Derived.LoopIn
import Derived.Sort.CutIn
import Derived.Deep.RegionWith
import Derived.StillTail
import Derived.StillTailTactics
import Derived.OrdersIn
import Derived.Test.YtncjeamdkjcebaaGreatDoorYBase
set_option linter.all false
set_option maxHeartbeats 4000000
set_option maxRecDepth 100000
namespace Go.Proofs.YtncjeamdkjcebaaGreatDoor
open Go.RowKit
open Go.RowKit Go.Shelf
open Go
structure Sig where
 name:ByteArray
 inp:Bool
 size:Int
def Ir:Sig:=⟨⟨#[]⟩,false,0⟩
structure Ik(w:World)(ao:Option Addr)(cap b off:Nat)(l:List Sig):Prop where
 lc:l.length<=cap
 cm:cap<=maxLen
 nm:l.length<=Bg
 ad:0<l.length->ao=some ⟨b,off,none⟩
 nn:∀j(h:j<l.length),w.cell? ⟨b,off+j*3,none⟩=some (.string l[j].name)
 ni:∀j(h:j<l.length),w.cell? ⟨b,off+j*3+1,none⟩=some (.bool l[j].inp)
 nz:∀j(h:j<l.length),w.cell? ⟨b,off+j*3+2,none⟩=some (.int .i64 l[j].size)
 sz:∀s∈l,I64 s.size
 sn:∀s∈l,s.name.size<=Bg
def AD(w:World)(v:Value)(l:List Sig):Prop:=∃ao cap b off,v=.slice ao l.length cap/\Ik w ao cap b off l
theorem Ik.below{w wr:World}{ao:Option Addr}{a b c:Nat}{l:List Sig}(h:Ik w ao a b c l)(hb:Below w.heap.size w wr):Ik wr ao a b c l:=
 {h with
  nn:=fun j hj=>Ag hb (h.nn j hj)
  ni:=fun j hj=>Ag hb (h.ni j hj)
  nz:=fun j hj=>Ag hb (h.nz j hj)}
theorem AD.below{w wr:World}{v:Value}{l:List Sig}(h:AD w v l)(hb:Below w.heap.size w wr):AD wr v l:=by
 obtain⟨ao,a,b,c,rfl,h⟩:=h;exact⟨ao,a,b,c,rfl,h.below hb⟩
theorem Ik.nb{w:World}{ao:Option Addr}{a b c:Nat}{l:List Sig}(h:Ik w ao a b c l):l.length<=140737488351232:=h.nm
def I0:List (List UInt8):=[[105,110,112,117,116],[111,117,116,112,117,116],[112,97,114,116],[97,115,115,117,109,101],[103,117,97,114,97,110,116,101,101],[116,114,117,101],[102,97,108,115,101],[97,100,100],[100,114,111,112],[114,101,112,108,97,99,101]]
def BV(j:Nat):ByteArray:=⟨(I0.getD j []).toArray⟩
def B7(w:World):Prop:=∀j,j<10->w.cell? ⟨0,j,none⟩=some (.string (BV j))
theorem B7.below{w wr:World}(h:B7 w)(hb:Below w.heap.size w wr):B7 wr:=fun j hj=>Ag hb (h j hj)
def Ff(s:ByteArray):Bool:=I0.contains s.toList
def F5(first:Bool)(c:UInt8):Bool:=(decide (97<=c.toNat)&&decide (c.toNat<=122))||(!first&&((decide (48<=c.toNat)&&decide (c.toNat<=57))||decide (c.toNat=95)))
def CP(s:ByteArray):Bool:=decide (1<=s.size)&&decide (s.size<=12)&&(List.range s.size).all (fun i=>F5 (decide (i=0)) (s.data.toList.getD i 0))&& !Ff s
def F6(s:ByteArray):List Sig->Nat->Int
 |[],_=>-1
 |x::r,k=>if x.name.toList=s.toList then k else F6 s r (k+1)
def Fw(l:List Sig)(s:ByteArray):Int:=F6 s l 0
theorem D8{α:Type}(l:List α)(k:Nat)(h:k<l.length):l.drop k=l[k]::l.drop (k+1):=List.drop_eq_getElem_cons h
theorem MP{l:List Sig}{k:Nat}(s:ByteArray)(h:k<l.length):F6 s (l.drop k) k=if l[k].name.toList=s.toList then(k:Int)else F6 s (l.drop (k+1)) (k+1):=by
 rw[D8 l k h];rfl
theorem Rx(w:World)(vl:Value)(l:List Sig)(s:ByteArray)(hl:AD w vl l):
  Calls Tryz.prog 103 #[vl,.string s] w fun e w'=>e=.returned (.int .i64 (Fw l s))/\w=w':=by
 obtain⟨ao,a,b,d,rfl,hl⟩:=hl;have hn:=hl.nb
 go_enter Tryz.func103,Tryz.ntmps103
 go_wp2
 go_loop [4,5] (fun r i=>∃k:Nat,i=.int .i64 k/\r=.int .i64 0/\k<=l.length/\Hid (Fw l s=F6 s (l.drop k) k)) (fun _ i=>l.length-(intOf i).toNat)
 case atStart=>exact⟨0,rfl,rfl,by omega,by simp[Hid,Fw]⟩
 case round=>
  obtain⟨k,rfl,rfl,hk,HE⟩:=hrel
  by_cases hlt:k<l.length
  ·obtain rfl:=hl.ad (by omega);have c:=hl.nn k hlt;have HD:=Ab (MP s hlt);go_wp2
   ·have hq:(l[k].name.toList==s.toList)=true:=by assumption
    go_ret;exact⟨Cj (by rw[HE.out,HD.out,if_pos (by simpa using hq)]),rfl⟩
   ·have hq:(l[k].name.toList==s.toList)=false:=by assumption
    go_round
    case rel=>exact⟨k+1,by go_num,rfl,by omega,by show _=_;rw[HE.out,HD.out,if_neg (by simpa using hq)]⟩
    case measure=>simp[intOf];omega
  ·go_wp2;go_ret;refine⟨Cj ?_,rfl⟩;rw[HE.out,List.drop_eq_nil_of_le (by omega)];rfl
def DT(s:ByteArray)(k:Nat):Bool:=(List.range k).all (fun i=>F5 (decide (i=0)) (s.data.toList.getD i 0))
theorem Fz(k:Nat)(_h:k<10):(BV k).toList=I0.getD k []:=by
 rw[ByteArray.toList_eq];simp[BV]
theorem MT(k:Nat)(h:k<10):∀W:World,(Instr.index 161 (.agg #[.string (BV 0),.string (BV 1),.string (BV 2),.string (BV 3),.string (BV 4),.string (BV 5),.string (BV 6),.string (BV 7),.string (BV 8),.string (BV 9)]) (.int .i64 (k:Int))).run Tryz.prog W=.ok (.string (BV k)) W:=by
 match k,h with
 |0,_=>exact fun _=>by kernel_rfl
 |1,_=>exact fun _=>by kernel_rfl
 |2,_=>exact fun _=>by kernel_rfl
 |3,_=>exact fun _=>by kernel_rfl
 |4,_=>exact fun _=>by kernel_rfl
 |5,_=>exact fun _=>by kernel_rfl
 |6,_=>exact fun _=>by kernel_rfl
 |7,_=>exact fun _=>by kernel_rfl
 |8,_=>exact fun _=>by kernel_rfl
 |9,_=>exact fun _=>by kernel_rfl
theorem E3{c:UInt8}(h:(97<=(c.toNat:Int)/\(c.toNat:Int)<=122)\/(48<=(c.toNat:Int)/\(c.toNat:Int)<=57)\/(c.toNat:Int)=95):F5 false c=true:=by
 simp only[F5,Bool.or_eq_true,Bool.and_eq_true,decide_eq_true_eq,Bool.not_false,true_and];omega
theorem DO{c:UInt8}(h:¬((97<=(c.toNat:Int)/\(c.toNat:Int)<=122)\/(48<=(c.toNat:Int)/\(c.toNat:Int)<=57)\/(c.toNat:Int)=95)):F5 false c=false:=by
 rw[<-Bool.not_eq_true];simp only[F5,Bool.or_eq_true,Bool.and_eq_true,decide_eq_true_eq,Bool.not_false,true_and];omega
theorem Ia{c:UInt8}(h:97<=(c.toNat:Int)/\(c.toNat:Int)<=122):F5 (decide (0=0)) c=true:=by
 simp only[F5,Bool.or_eq_true,Bool.and_eq_true,decide_eq_true_eq];omega
theorem Cd{c:UInt8}(h:¬(97<=(c.toNat:Int)/\(c.toNat:Int)<=122)):F5 (decide (0=0)) c=false:=by
 rw[<-Bool.not_eq_true];simp[F5];omega
theorem Cv(p:Nat->Bool)(k:Nat):(List.range (k+1)).all p=((List.range k).all p&&p k):=by
 rw[List.range_succ,List.all_append];simp
theorem A6(p:Nat->Bool)(n k:Nat)(h:k<n)(hp:p k=false):(List.range n).all p=false:=by
 rw[List.all_eq_false];exact⟨k,List.mem_range.2 h,by simp[hp]⟩
theorem S7(w:World)(s:ByteArray)(hK:B7 w)(hs:s.size<=Bg):
  Calls Tryz.prog 89 #[.string s] w fun e w'=>e=.returned (.bool (CP s))/\w=w':=by
 have d:s.size<=140737488351232:=hs;clear hs;have k0:=hK 0 (by omega);have k1:=hK 1 (by omega);have k2:=hK 2 (by omega);have k3:=hK 3 (by omega);have k4:=hK 4 (by omega);have k5:=hK 5 (by omega);have k6:=hK 6 (by omega);have k7:=hK 7 (by omega);have k8:=hK 8 (by omega);have k9:=hK 9 (by omega)
 by_cases h1:(s.size:Int)<1
 ·go_enter Tryz.func89,Tryz.ntmps89
  go_wp2
  go_step3
  go_wp2
  (try rw[Exit.noGoto_ret])
  go_ret;exact⟨Ak (by simp[CP];omega),rfl⟩
 have h3:(1:Int)<=s.size:=by omega
 by_cases h2:(12:Int)<s.size
 ·clear h1
  go_enter Tryz.func89,Tryz.ntmps89
  go_wp2
  go_step3
  go_wp2
  (try rw[Exit.noGoto_ret])
  go_ret;exact⟨Ak (by simp[CP];omega),rfl⟩
 have h4:(s.size:Int)<=12:=by omega
 clear h1 h2
 go_enter Tryz.func89,Tryz.ntmps89
 go_wp2
 go_step3
 go_wp2
 go_step3
 go_upto_block 0 with(fail)
 go_cut [3] (fun v wx=>w=wx/\v=.bool (DT s s.size))
 case first=>
  go_wp2
  go_loopg [3,18] s.size (fun gh ok i wr=>∃k:Nat,gh=s.size-k/\i=.int .i64 k/\ok=.bool true/\k<=s.size/\Hid (DT s k=true)/\w=wr)
  case atStart=>exact⟨0,rfl,rfl,rfl,by omega,rfl,rfl⟩
  case round=>
   obtain⟨k,a,rfl,rfl,hk,HE,rfl⟩:=hrel;have HG:=Ab a;clear a
   by_cases hlt:k<s.size
   ·have A:Hid (s.data.toList.getD k 0=s[k]):=by show _=_;simp[List.getD,hlt];rfl
    by_cases hk0:0<k
    ·have hz:Hid (decide (k=0)=false):=by show _=_;simp;omega
     go_wp2
     all_goals
      first
      |(go_roundg (s.size-(k+1))
        case measure=>have:=HG.out;omega
        case rel=>exact⟨k+1,rfl,by go_num,rfl,by omega,by show _=_;rw[DT,Cv,A.out,hz.out];(try simp only[beq_iff_eq]at*);(try simp only[beq_eq_false_iff_ne]at*);rw[show(List.range k).all _=true from HE.out,E3 (by omega)];rfl,rfl⟩)
      |(go_meet
        case rel=>exact⟨rfl,by rw[DT,A6 _ _ k hlt (by rw[A.out,hz.out];(try simp only[beq_iff_eq]at*);(try simp only[beq_eq_false_iff_ne]at*);exact DO (by omega))]⟩)
    ·obtain rfl:k=0:=by omega
     go_wp2
     all_goals
      first
      |(go_roundg (s.size-(0+1))
        case measure=>have:=HG.out;omega
        case rel=>exact⟨0+1,rfl,by go_num,rfl,by omega,by show _=_;rw[DT,Cv,A.out];rw[Ia (by omega)];rfl,rfl⟩)
      |(go_meet
        case rel=>exact⟨rfl,by rw[DT,A6 _ _ 0 hlt (by rw[A.out];exact Cd (by omega))]⟩)
   ·obtain rfl:k=s.size:=by omega
    go_wp2
    go_meet
    case rel=>exact⟨rfl,by rw[HE.out]⟩
 case rest=>
  obtain⟨rfl,rfl⟩:=hcut;go_wp2;clear k0 k1 k2 k3 k4 k5 k6 k7 k8 k9 hK
  go_loopg [2,48] 10 (fun gh r i wr=>∃k:Nat,gh=10-k/\i=.int .i64 k/\r=.bool false/\k<=10/\Hid (∀j,j<k->I0.getD j []≠s.toList)/\w=wr)
  case atStart=>exact⟨0,rfl,rfl,rfl,by omega,fun j hj=>absurd hj (by omega),rfl⟩
  case round=>
   obtain⟨k,a,rfl,rfl,hk,HE,rfl⟩:=hrel;have HG:=Ab a;clear a
   by_cases hlt:k<10
   ·have hi:=MT k hlt;have c:=Fz k hlt;have b:=Ab c;clear c;go_wp2
    ·have hq:((BV k).toList==s.toList)=true:=by assumption
     (try rw[Exit.noGoto_ret])
     go_ret;refine⟨Ak (Eq.symm ?_),rfl⟩;rw[b.out]at hq
     have h5:Ff s=true:=by
      rw[Ff,List.contains_iff_mem,<-eq_of_beq hq,Ae I0 [] k (by simpa[I0]using hlt)];exact List.getElem_mem _
     rw[CP,h5];simp
    ·have hq:((BV k).toList==s.toList)=false:=by assumption
     go_roundg (10-(k+1))
     case measure=>have:=HG.out;omega
     case rel=>
      refine⟨k+1,rfl,by go_num,rfl,by omega,fun j hj=> ?_,rfl⟩
      rcases Nat.lt_or_ge j k with h|h
      ·exact HE.out j h
      ·obtain rfl:j=k:=by omega
       rw[b.out]at hq;simpa using hq
   ·obtain rfl:k=10:=by omega
    go_wp2
    (try rw[Exit.noGoto_ret])
    go_ret;refine⟨Ak ?_,rfl⟩
    have h5:Ff s=false:=by
     rw[Ff,<-Bool.not_eq_true,List.contains_iff_mem];intro h;obtain⟨j,hj,e⟩:=List.getElem_of_mem h;refine HE.out j (by simpa[I0]using hj) ?_;rw[Ae _ _ _ hj,e]
    rw[CP,h5,decide_eq_true (show 1<=s.size by omega),decide_eq_true (show s.size<=12 by omega)];simp[DT]
theorem Sc{s:ByteArray}{k:Nat}(h:k<10)(e:(BV k).toList=s.toList):Ff s=true:=by
 rw[Fz k h]at e;rw[Ff,List.contains_iff_mem,<-e,Ae I0 [] k (by simpa[I0]using h)];exact List.getElem_mem _
theorem QE{s:ByteArray}(h:∀j,j<10->(BV j).toList≠s.toList):Ff s=false:=by
 rw[Ff,<-Bool.not_eq_true,List.contains_iff_mem];intro hm;obtain⟨j,hj,e⟩:=List.getElem_of_mem hm
 have a:j<10:=by simpa[I0]using hj
 refine h j a ?_;rw[Fz j a,Ae _ _ _ hj,e]
theorem Uu(w:World)(b:Nat)(s:ByteArray)(hk:∀j,j<10->w.cell? ⟨b,j,none⟩=some (.string (BV j))):
  Calls Tryz.prog 125 #[.slice (some ⟨b,0,none⟩) 10 10,.string s] w fun e w'=>e=.returned (.bool (Ff s))/\w=w':=by
 have HK:=Ab hk;clear hk
 go_enter Tryz.func125,Tryz.ntmps125
 go_wp2
 go_loop [4,5] (fun r i=>∃k:Nat,i=.int .i64 k/\r=.bool false/\k<=10/\Hid (∀j,j<k->(BV j).toList≠s.toList)) (fun _ i=>10-(intOf i).toNat)
 case atStart=>exact⟨0,rfl,rfl,by omega,fun j hj=>absurd hj (by omega)⟩
 case round=>
  obtain⟨k,rfl,rfl,hk,HE⟩:=hrel
  by_cases hlt:k<10
  ·have c:=HK.out k hlt;go_wp2
   ·have hq:((BV k).toList==s.toList)=true:=by assumption
    go_ret;exact⟨Ak (Sc hlt (eq_of_beq hq)).symm,rfl⟩
   ·have hq:((BV k).toList==s.toList)=false:=by assumption
    go_round
    case rel=>
     refine⟨k+1,by go_num,rfl,by omega,fun j hj=> ?_⟩
     rcases Nat.lt_or_ge j k with h|h
     ·exact HE.out j h
     ·obtain rfl:j=k:=by omega
      simpa using hq
    case measure=>simp[intOf];omega
  ·obtain rfl:k=10:=by omega
   go_wp2;go_ret;exact⟨Ak (QE HE.out).symm,rfl⟩
theorem Mr(w:World):Calls Tryz.prog 126 #[] w fun e w'=>e=.returned (.slice (some ⟨w.heap.size,0,none⟩) 10 10)/\w'=w.alloc (.cells #[.string (BV 0),.string (BV 1),.string (BV 2),.string (BV 3),.string (BV 4),.string (BV 5),.string (BV 6),.string (BV 7),.string (BV 8),.string (BV 9)] 9):=by
 go_enter Tryz.func126,Tryz.ntmps126
 go_wp2;go_ret;exact⟨rfl,rfl⟩
theorem QD(w:World):∀j,j<10->(w.alloc (.cells #[.string (BV 0),.string (BV 1),.string (BV 2),.string (BV 3),.string (BV 4),.string (BV 5),.string (BV 6),.string (BV 7),.string (BV 8),.string (BV 9)] 9)).cell? ⟨w.heap.size,j,none⟩=some (.string (BV j)):=fun j h=>by
 rw[cell_of_row _ _ j _ _ _ (heap_alloc_new _ _)]
 match j,h with
 |0,_=>rfl
 |1,_=>rfl
 |2,_=>rfl
 |3,_=>rfl
 |4,_=>rfl
 |5,_=>rfl
 |6,_=>rfl
 |7,_=>rfl
 |8,_=>rfl
 |9,_=>rfl
theorem Ns(w:World)(s:ByteArray)(hs:s.size<=Bg):
  Calls Tryz.prog 102 #[.string s] w (Av (.bool (CP s)) w):=by
 have m:s.size<=140737488351232:=hs;clear hs
 by_cases h1:(s.size:Int)<1
 ·go_enter Tryz.func102,Tryz.ntmps102
  go_wp2;go_ret;exact⟨Ak (by simp[CP];omega),Ad⟩
 have h3:(1:Int)<=s.size:=by omega
 by_cases h2:(12:Int)<s.size
 ·clear h1
  go_enter Tryz.func102,Tryz.ntmps102
  go_wp2;go_ret;exact⟨Ak (by simp[CP];omega),Ad⟩
 have h4:(s.size:Int)<=12:=by omega
 clear h1 h2
 have l:Hid (∀W:World,(∀j,j<10->W.cell? ⟨w.heap.size,j,none⟩=some (.string (BV j)))->Calls Tryz.prog 125 #[.slice (some ⟨w.heap.size,0,none⟩) 10 10,.string s] W fun e w'=>e=.returned (.bool (Ff s))/\W=w'):=fun W h=>Uu W _ s h
 cases hc:Ff s
 all_goals
  go_enter Tryz.func102,Tryz.ntmps102
  go_wp2_with fail
  refine(Mr _).mono ?_;rintro e w1 ⟨rfl,d⟩;have c:=QD w;rw[<-d]at c
  have HB:Hid (Below w.heap.size w w1):=by rw[d];exact Ao _
  have f:=Ab c;clear c d
  go_wp2_with fail
  refine(l.out _ f.out).mono ?_;rintro e w1 ⟨rfl,rfl⟩;rw[hc];have HC:=Ab hc;clear hc;go_wp2
 ·go_loop [2,3] (fun r i=>∃k:Nat,i=.int .i64 k/\r=.bool false/\k<=s.size/\Hid (DT s k=true)) (fun _ i=>s.size-(intOf i).toNat)
  case atStart=>exact⟨0,rfl,rfl,by omega,rfl⟩
  case round=>
   obtain⟨k,rfl,rfl,hk,HE⟩:=hrel
   by_cases hlt:k<s.size
   ·have A:Hid (s.data.toList.getD k 0=s[k]):=by show _=_;simp[List.getD,hlt];rfl
    by_cases hk0:0<k
    ·have hz:Hid (decide (k=0)=false):=by show _=_;simp;omega
     have n:((k:Int)==0)=false:=by rw[beq_eq_false_iff_ne];omega
     rcases(by omega:(s[k].toNat:Int)<48\/(48<=(s[k].toNat:Int)/\(s[k].toNat:Int)<=57)\/(57<(s[k].toNat:Int)/\(s[k].toNat:Int)<95)\/(95<=(s[k].toNat:Int)/\(s[k].toNat:Int)<=95)\/(95<(s[k].toNat:Int)/\(s[k].toNat:Int)<97)\/(97<=(s[k].toNat:Int)/\(s[k].toNat:Int)<=122)\/122<(s[k].toNat:Int))with hc|hc|hc|hc|hc|hc|hc
     ·have hq:((s[k].toNat:Int)==95)=false:=by first|(rw[beq_eq_false_iff_ne];omega)|(rw[beq_iff_eq];omega)
      have b:decide ((s[k].toNat:Int)<=57)=true:=decide_eq_true (by omega);have a:decide ((s[k].toNat:Int)<=122)=true:=decide_eq_true (by omega);go_wp2;go_ret;refine⟨Ak (Eq.symm ?_),HB.out⟩;rw[CP,A6 _ _ k hlt (by rw[A.out,hz.out];exact DO (by omega))];simp
     ·have hq:((s[k].toNat:Int)==95)=false:=by first|(rw[beq_eq_false_iff_ne];omega)|(rw[beq_iff_eq];omega)
      have b:decide ((s[k].toNat:Int)<=57)=true:=decide_eq_true (by omega);have a:decide ((s[k].toNat:Int)<=122)=true:=decide_eq_true (by omega);go_wp2
      go_round
      case rel=>exact⟨k+1,by go_num,rfl,by omega,by show _=_;rw[DT,Cv,A.out,hz.out,E3 (by omega)];rw[show(List.range k).all _=true from HE.out];rfl⟩
      case measure=>simp[intOf];omega
     ·have hq:((s[k].toNat:Int)==95)=false:=by first|(rw[beq_eq_false_iff_ne];omega)|(rw[beq_iff_eq];omega)
      have b:decide ((s[k].toNat:Int)<=57)=false:=decide_eq_false (by omega);have a:decide ((s[k].toNat:Int)<=122)=true:=decide_eq_true (by omega);go_wp2;go_ret;refine⟨Ak (Eq.symm ?_),HB.out⟩;rw[CP,A6 _ _ k hlt (by rw[A.out,hz.out];exact DO (by omega))];simp
     ·have hq:((s[k].toNat:Int)==95)=true:=by first|(rw[beq_eq_false_iff_ne];omega)|(rw[beq_iff_eq];omega)
      have b:decide ((s[k].toNat:Int)<=57)=false:=decide_eq_false (by omega);have a:decide ((s[k].toNat:Int)<=122)=true:=decide_eq_true (by omega);go_wp2
      go_round
      case rel=>exact⟨k+1,by go_num,rfl,by omega,by show _=_;rw[DT,Cv,A.out,hz.out,E3 (by omega)];rw[show(List.range k).all _=true from HE.out];rfl⟩
      case measure=>simp[intOf];omega
     ·have hq:((s[k].toNat:Int)==95)=false:=by first|(rw[beq_eq_false_iff_ne];omega)|(rw[beq_iff_eq];omega)
      have b:decide ((s[k].toNat:Int)<=57)=false:=decide_eq_false (by omega);have a:decide ((s[k].toNat:Int)<=122)=true:=decide_eq_true (by omega);go_wp2;go_ret;refine⟨Ak (Eq.symm ?_),HB.out⟩;rw[CP,A6 _ _ k hlt (by rw[A.out,hz.out];exact DO (by omega))];simp
     ·have hq:((s[k].toNat:Int)==95)=false:=by first|(rw[beq_eq_false_iff_ne];omega)|(rw[beq_iff_eq];omega)
      have b:decide ((s[k].toNat:Int)<=57)=false:=decide_eq_false (by omega);have a:decide ((s[k].toNat:Int)<=122)=true:=decide_eq_true (by omega);go_wp2
      go_round
      case rel=>exact⟨k+1,by go_num,rfl,by omega,by show _=_;rw[DT,Cv,A.out,hz.out,E3 (by omega)];rw[show(List.range k).all _=true from HE.out];rfl⟩
      case measure=>simp[intOf];omega
     ·have hq:((s[k].toNat:Int)==95)=false:=by first|(rw[beq_eq_false_iff_ne];omega)|(rw[beq_iff_eq];omega)
      have b:decide ((s[k].toNat:Int)<=57)=false:=decide_eq_false (by omega);have a:decide ((s[k].toNat:Int)<=122)=false:=decide_eq_false (by omega);go_wp2;go_ret;refine⟨Ak (Eq.symm ?_),HB.out⟩;rw[CP,A6 _ _ k hlt (by rw[A.out,hz.out];exact DO (by omega))];simp
    ·obtain rfl:k=0:=by omega
     rcases(by omega:(s[0].toNat:Int)<48\/(48<=(s[0].toNat:Int)/\(s[0].toNat:Int)<=57)\/(57<(s[0].toNat:Int)/\(s[0].toNat:Int)<95)\/(95<=(s[0].toNat:Int)/\(s[0].toNat:Int)<=95)\/(95<(s[0].toNat:Int)/\(s[0].toNat:Int)<97)\/(97<=(s[0].toNat:Int)/\(s[0].toNat:Int)<=122)\/122<(s[0].toNat:Int))with hc|hc|hc|hc|hc|hc|hc
     ·have hq:((s[0].toNat:Int)==95)=false:=by first|(rw[beq_eq_false_iff_ne];omega)|(rw[beq_iff_eq];omega)
      have b:decide ((s[0].toNat:Int)<=57)=true:=decide_eq_true (by omega);have a:decide ((s[0].toNat:Int)<=122)=true:=decide_eq_true (by omega);go_wp2;go_ret;refine⟨Ak (Eq.symm ?_),HB.out⟩;rw[CP,A6 _ _ 0 hlt (by rw[A.out];exact Cd (by omega))];simp
     ·have hq:((s[0].toNat:Int)==95)=false:=by first|(rw[beq_eq_false_iff_ne];omega)|(rw[beq_iff_eq];omega)
      have b:decide ((s[0].toNat:Int)<=57)=true:=decide_eq_true (by omega);have a:decide ((s[0].toNat:Int)<=122)=true:=decide_eq_true (by omega);go_wp2;go_ret;refine⟨Ak (Eq.symm ?_),HB.out⟩;rw[CP,A6 _ _ 0 hlt (by rw[A.out];exact Cd (by omega))];simp
     ·have hq:((s[0].toNat:Int)==95)=false:=by first|(rw[beq_eq_false_iff_ne];omega)|(rw[beq_iff_eq];omega)
      have b:decide ((s[0].toNat:Int)<=57)=false:=decide_eq_false (by omega);have a:decide ((s[0].toNat:Int)<=122)=true:=decide_eq_true (by omega);go_wp2;go_ret;refine⟨Ak (Eq.symm ?_),HB.out⟩;rw[CP,A6 _ _ 0 hlt (by rw[A.out];exact Cd (by omega))];simp
     ·have hq:((s[0].toNat:Int)==95)=true:=by first|(rw[beq_eq_false_iff_ne];omega)|(rw[beq_iff_eq];omega)
      have b:decide ((s[0].toNat:Int)<=57)=false:=decide_eq_false (by omega);have a:decide ((s[0].toNat:Int)<=122)=true:=decide_eq_true (by omega);go_wp2;go_ret;refine⟨Ak (Eq.symm ?_),HB.out⟩;rw[CP,A6 _ _ 0 hlt (by rw[A.out];exact Cd (by omega))];simp
     ·have hq:((s[0].toNat:Int)==95)=false:=by first|(rw[beq_eq_false_iff_ne];omega)|(rw[beq_iff_eq];omega)
      have b:decide ((s[0].toNat:Int)<=57)=false:=decide_eq_false (by omega);have a:decide ((s[0].toNat:Int)<=122)=true:=decide_eq_true (by omega);go_wp2;go_ret;refine⟨Ak (Eq.symm ?_),HB.out⟩;rw[CP,A6 _ _ 0 hlt (by rw[A.out];exact Cd (by omega))];simp
     ·have hq:((s[0].toNat:Int)==95)=false:=by first|(rw[beq_eq_false_iff_ne];omega)|(rw[beq_iff_eq];omega)
      have b:decide ((s[0].toNat:Int)<=57)=false:=decide_eq_false (by omega);have a:decide ((s[0].toNat:Int)<=122)=true:=decide_eq_true (by omega);go_wp2
      go_round
      case rel=>exact⟨0+1,by go_num,rfl,by omega,by show _=_;rw[DT,Cv,A.out,Ia (by omega)];rfl⟩
      case measure=>simp[intOf];omega
     ·have hq:((s[0].toNat:Int)==95)=false:=by first|(rw[beq_eq_false_iff_ne];omega)|(rw[beq_iff_eq];omega)
      have b:decide ((s[0].toNat:Int)<=57)=false:=decide_eq_false (by omega);have a:decide ((s[0].toNat:Int)<=122)=false:=decide_eq_false (by omega);go_wp2;go_ret;refine⟨Ak (Eq.symm ?_),HB.out⟩;rw[CP,A6 _ _ 0 hlt (by rw[A.out];exact Cd (by omega))];simp
   ·obtain rfl:k=s.size:=by omega
    go_wp2;go_ret;refine⟨Ak ?_,HB.out⟩;rw[CP,HC.out,decide_eq_true (show 1<=s.size by omega),decide_eq_true (show s.size<=12 by omega),show(List.range s.size).all _=true from HE.out];rfl
 ·go_ret;refine⟨Ak ?_,HB.out⟩;rw[CP,HC.out];simp
def An:List Sig->Int
 |[]=>1
 |s::r=>s.size*An r
theorem M8(l:List Sig)(s:Sig):An (l++[s])=An l*s.size:=by
 induction l with
 |nil=>simp[An]
 |cons a l ih=>simp only[List.cons_append,An,ih,Int.mul_assoc]
theorem BF{l:List Sig}{k:Nat}(h:k<l.length):An (l.take (k+1))=An (l.take k)*l[k].size:=by
 rw[List.take_succ_eq_append_getElem h,M8]
def AP(s:Sig):Bool:=decide (2<=s.size)&&decide (s.size<=4)
def I7(l:List Sig)(i:Nat):Bool:=(List.range i).all fun k=> !((l.getD k Ir).name.toList==(l.getD i Ir).name.toList)
def FD(l:List Sig)(i:Nat):Bool:=CP (l.getD i Ir).name&&AP (l.getD i Ir)&&I7 l i
def Fo(l:List Sig)(k:Nat):Bool:=(List.range k).all (FD l)
def As(l:List Sig):Bool:=decide (1<=l.length)&&decide (l.length<=6)&&Fo l l.length&&decide (An l<=64)
theorem Jd{k:Nat}(h:k<=6):(4:Int)^k<=4096:=by
 match k,h with
 |0,_=>decide
 |1,_=>decide
 |2,_=>decide
 |3,_=>decide
 |4,_=>decide
 |5,_=>decide
 |6,_=>decide
theorem En(l:List Sig)(h:∀s∈l,AP s=true):1<=An l/\An l<=4^l.length:=by
 induction l with
 |nil=>simp[An]
 |cons a l ih=>
  obtain⟨h1,h2⟩:=ih (fun s hs=>h s (List.mem_cons_of_mem _ hs));have ha:=h a List.mem_cons_self;simp only[AP,Bool.and_eq_true,decide_eq_true_eq]at ha;rw[An,List.length_cons,Int.pow_succ];refine⟨?_, ?_⟩
  ·have:=Int.mul_le_mul (show(1:Int)<=a.size by omega) h1 (by omega) (by omega);omega
  ·rw[Int.mul_comm (4^l.length) 4];exact Int.mul_le_mul ha.2 h2 (by omega) (by omega)
theorem Fp{l:List Sig}{k:Nat}(h:Fo l k=true)(hk:k<=l.length):∀s∈l.take k,AP s=true:=fun s hs=>by
 obtain⟨j,hj,rfl⟩:=List.getElem_of_mem hs;rw[List.length_take]at hj;have:=List.all_eq_true.1 h j (List.mem_range.2 (by omega));simp only[FD,Bool.and_eq_true]at this;rw[List.getElem_take];have e:=this.1.2
 rwa [Ae _ _ _ (by omega)]at e
theorem Ht{l:List Sig}{k:Nat}(h:Fo l k=true)(hk:k<l.length)(h6:l.length<=6)(hs:AP l[k]=true):
  (1<=An (l.take k)/\An (l.take k)<=4096)/\IntKind.i64.wrap (An (l.take k)*l[k].size)=An (l.take (k+1)):=by
 have h1:=En _ (Fp h (by omega))
 have h2:An (l.take k)<=4096:=by
  exact Int.le_trans h1.2 (Jd (by rw[List.length_take];omega))
 refine⟨⟨h1.1,h2⟩, ?_⟩;rw[BF hk];simp only[AP,Bool.and_eq_true,decide_eq_true_eq]at hs;refine IntWalk.i64_in _ ⟨?_, ?_⟩
 ·have:=Int.mul_nonneg (show 0<=An (l.take k)by omega) (show 0<=l[k].size by omega);omega
 ·have:=Int.mul_le_mul h2 hs.2 (by omega) (by omega);omega
theorem JA(l:List Sig)(k:Nat):Fo l (k+1)=(Fo l k&&FD l k):=Cv _ _
theorem Ef{l:List Sig}{n k:Nat}(h:k<n)(hs:FD l k=false):Fo l n=false:=A6 _ _ _ h hs
theorem CC(w:World)(vl:Value)(l:List Sig)(hK:B7 w)(hl:AD w vl l):
  Calls Tryz.prog 41 #[vl] w (DZ (.bool (As l)) w):=by
 obtain⟨ao,aa,b,v,rfl,hl⟩:=hl;have hn:=hl.nb
 by_cases h1:(l.length:Int)<1
 ·go_enter Tryz.func41,Tryz.ntmps41
  go_wp2
  go_step3
  go_wp2
  (try rw[Exit.noGoto_ret])
  go_ret;exact⟨Ak (by simp[As];omega),0,rfl⟩
 have h3:(1:Int)<=l.length:=by omega
 by_cases h2:(6:Int)<l.length
 ·clear h1
  go_enter Tryz.func41,Tryz.ntmps41
  go_wp2
  go_step3
  go_wp2
  (try rw[Exit.noGoto_ret])
  go_ret;exact⟨Ak (by simp[As];omega),0,rfl⟩
 have h4:(l.length:Int)<=6:=by omega
 have hN:Hid (∀(W:World)(s:ByteArray),Below w.heap.size w W->s.size<=Bg->Calls Tryz.prog 89 #[.string s] W fun e w'=>e=.returned (.bool (CP s))/\W=w'):=fun W s hW h=>S7 W s (hK.below hW) h
 have a:Hid (∀j(h:j<l.length),l[j].name.size<=Bg):=fun j h=>hl.sn _ (List.getElem_mem h)
 clear h1 h2 hK
 go_enter Tryz.func41,Tryz.ntmps41
 go_wp2
 go_step3
 go_wp2
 go_step3
 go_upto_block 0 with(fail)
 go_cut [3,4] (fun ok pr wx=>(∃n,wx=w.drewN n)/\ok=.bool (Fo l l.length)/\∃p,pr=.int .i64 p/\Hid (Fo l l.length=true->p=An l))
 case first=>
  go_wp2
  go_loopg [3,4,17] l.length (fun gh ok pr i wr=>∃k n:Nat,gh=l.length-k/\i=.int .i64 k/\ok=.bool true/\pr=.int .i64 (An (l.take k))/\k<=l.length/\Hid (Fo l k=true)/\wr=w.drewN n)
  case atStart=>exact⟨0,0,rfl,rfl,rfl,rfl,by omega,rfl,rfl⟩
  case round=>
   obtain⟨k,n,q,rfl,rfl,rfl,hk,HE,rfl⟩:=hrel;have HG:=Ab q;clear q
   by_cases hlt:k<l.length
   ·obtain rfl:=hl.ad (by omega);have c0:=hl.nn k hlt;have c2:=hl.nz k hlt;have hz:=hl.sz _ (List.getElem_mem hlt);have A:Hid (l.getD k Ir=l[k]):=Ae _ _ _ hlt;unfold I64 at hz
    cases hq:CP l[k].name
    ·go_wp2_with fail
     refine(hN.out _ _ (Aj _ _ _) (a.out k hlt)).mono ?_;rintro e w' ⟨rfl,rfl⟩;rw[hq];go_wp2
     go_meet
     case rel=>exact⟨⟨n,rfl⟩,by rw[Ef hlt (by rw[FD,A.out,hq];rfl)],_,rfl,fun h=>by rw[Ef hlt (by rw[FD,A.out,hq];rfl)]at h;cases h⟩
    ·by_cases hs:2<=l[k].size/\l[k].size<=4
     case neg=>
      have HF:Hid (Fo l l.length=false):=Ef hlt (by
       have:AP l[k]=false:=by rw[<-Bool.not_eq_true];simp only[AP,Bool.and_eq_true,decide_eq_true_eq];exact hs
       rw[FD,A.out,this];simp)
      rcases(by omega:l[k].size<2\/(2<=l[k].size/\4<l[k].size))with u|u
      all_goals
       clear hs
       go_wp2_with fail
       refine(hN.out _ _ (Aj _ _ _) (a.out k hlt)).mono ?_;rintro e w' ⟨rfl,rfl⟩;rw[hq];go_wp2
       go_meet
       case rel=>exact⟨⟨n,rfl⟩,by rw[HF.out],_,rfl,fun h=>by rw[HF.out]at h;cases h⟩
     have d:AP l[k]=true:=by simp only[AP,Bool.and_eq_true,decide_eq_true_eq];exact hs
     obtain⟨⟨ab,ac⟩,c⟩:=Ht HE.out hlt (by omega) d;have f:=Ab c;have z:=Ab d;have HQ:=Ab hq;obtain⟨ae,u⟩:=hs;have hI:Hid (AD w (.slice (some ⟨b,v,none⟩) l.length aa) l):=⟨_,_,b,v,rfl,hl⟩;clear c d;generalize An (l.take k)=pr at*
     go_wp2_with fail
     refine(hN.out _ _ (Aj _ _ _) (a.out k hlt)).mono ?_;rintro e w' ⟨rfl,rfl⟩;rw[hq];clear hq;go_wp2
     go_loopg [3,44] k (fun gh ok i wx=>∃j m:Nat,gh=k-j/\i=.int .i64 j/\ok=.bool true/\j<=k/\Hid ((List.range j).all (fun i=> !((l.getD i Ir).name.toList==(l.getD k Ir).name.toList))=true)/\wx=w.drewN m)
     case atStart=>exact⟨0,n,rfl,rfl,rfl,by omega,rfl,rfl⟩
     case round=>
      obtain⟨j,m,o,rfl,rfl,hj,HJ,rfl⟩:=hrel;have x:=Ab o;clear o
      by_cases hltj:j<k
      ·have r:j<l.length:=by omega
       have c3:=hl.nn j r;have A2:Hid (l.getD j Ir=l[j]):=Ae _ _ _ r;go_wp2
       go_quiet (fail)
       go_wp2
       ·have he:(l[j].name.toList==l[k].name.toList)=true:=by assumption
        have HF:Hid (Fo l l.length=false):=Ef hlt (by rw[FD,I7,A6 _ _ j hltj (by rw[A.out,A2.out,he];rfl)];simp)
        go_meet
        case rel=>exact⟨⟨_,World.drewN_drewN ..⟩,by rw[HF.out],_,rfl,fun h=>by rw[HF.out]at h;cases h⟩
       ·have he:(l[j].name.toList==l[k].name.toList)=false:=by assumption
        go_roundg (k-(j+1))
        case measure=>have:=x.out;omega
        case rel=>exact⟨j+1,_,rfl,by go_num,rfl,by omega,by show _=_;rw[Cv,HJ.out,A.out,A2.out,he];rfl,rfl⟩
      ·obtain rfl:j=k:=by omega
       have c:=f.out;go_wp2
       go_roundg (l.length-(j+1))
       case measure=>have:=HG.out;omega
       case rel=>exact⟨j+1,m,rfl,by go_num,rfl,by first|rw[f.out]|rfl,by omega,by show _=_;rw[JA,HE.out,FD,A.out,HQ.out,z.out,I7,HJ.out];rfl,rfl⟩
   ·obtain rfl:k=l.length:=by omega
    go_wp2
    go_meet
    case rel=>exact⟨⟨n,rfl⟩,by rw[HE.out],_,rfl,fun _=>by rw[List.take_length]⟩
 case rest=>
  obtain⟨⟨n,rfl⟩,rfl,p,rfl,HP⟩:=hcut
  have HV:Hid (As l=(Fo l l.length&&decide (An l<=64))):=by
   show _=_;rw[As,decide_eq_true (show 1<=l.length by omega),decide_eq_true (show l.length<=6 by omega)];rfl
  cases hA:Fo l l.length
  ·go_wp2
   (try rw[Exit.noGoto_ret])
   go_ret;exact⟨Ak (by rw[HV.out,hA];rfl),n,rfl⟩
  ·have y:=Ab (HP.out hA);go_wp2
   (try rw[Exit.noGoto_ret])
   go_ret;exact⟨Ak (by rw[HV.out,hA,y.out];rfl),n,rfl⟩
theorem Lq{l:List Sig}{s:ByteArray}:∀(i k:Nat)(h:i<l.length),l[i].name.toList=s.toList->(∀j(hj:j<i),l[j].name.toList≠s.toList)->F6 s l k=((k+i:Nat):Int):=by
 induction l with
 |nil=>intro i k h;simp at h
 |cons x r ih=>
  intro i k h he hn;unfold F6
  cases i with
  |zero=>rw[if_pos (by simpa using he)];simp
  |succ i=>
   rw[if_neg (by simpa using hn 0 (by omega)),ih i (k+1) (by simpa using h) (by simpa using he) (fun j hj=>by simpa using hn (j+1) (by omega))]
   congr 1;omega
theorem MN{l:List Sig}{s:ByteArray}:∀(k:Nat),F6 s l k≠-1->∃i,∃h:i<l.length,l[i].name.toList=s.toList/\(∀j(hj:j<i),l[j].name.toList≠s.toList)/\F6 s l k=((k+i:Nat):Int):=by
 induction l with
 |nil=>intro k h;exact absurd rfl h
 |cons x r ih=>
  intro k h;unfold F6 at h⊢
  by_cases hx:x.name.toList=s.toList
  ·rw[if_pos hx];exact⟨0,by simp,by simpa using hx,fun j hj=>absurd hj (by omega),by simp⟩
  ·rw[if_neg hx]at h⊢;obtain⟨i,hi,h1,h2,h3⟩:=ih (k+1) h;refine⟨i+1,by simp;exact hi,by simpa using h1,fun j hj=> ?_,by rw[h3];congr 1;omega⟩
   cases j with
   |zero=>simpa using hx
   |succ j=>simpa using h2 j (by omega)
theorem Lr{l:List Sig}{i:Nat}(h:i<l.length):(Fw l l[i].name=(i:Int))↔I7 l i=true:=by
 have e:I7 l i=true↔∀j,∀hj:j<i,(l[j]'(by omega)).name.toList≠l[i].name.toList:=by
  simp only[I7,List.all_eq_true,List.mem_range,Bool.not_eq_true',beq_eq_false_iff_ne]
  constructor
  ·intro k j hj;have:=k j hj
   rwa [Ae _ _ _ (show j<l.length by omega),Ae _ _ _ h]at this
  ·intro k j hj;rw[Ae _ _ _ (show j<l.length by omega),Ae _ _ _ h];exact k j hj
 rw[e]
 constructor
 ·intro hf j hj;obtain⟨i',a,h1,h2,h3⟩:=MN (l:=l) (s:=l[i].name) 0 (by unfold Fw at hf;omega);unfold Fw at hf
  obtain rfl:i'=i:=by omega
  exact h2 j hj
 ·intro hn;have:=Lq (l:=l) (s:=l[i].name) i 0 h rfl hn;unfold Fw;rw[this];simp
theorem DB(w:World)(vl:Value)(l:List Sig)(hl:AD w vl l):
  Calls Tryz.prog 63 #[vl] w (Av (.bool (As l)) w):=by
 have x:=hl;obtain⟨ao,z,b,ae,rfl,hl⟩:=hl;have hn:=hl.nb
 by_cases h1:(l.length:Int)<1
 ·go_enter Tryz.func63,Tryz.ntmps63
  go_wp2;go_ret;exact⟨Ak (by simp[As];omega),Ad⟩
 have h3:(1:Int)<=l.length:=by omega
 by_cases h2:(6:Int)<l.length
 ·clear h1
  go_enter Tryz.func63,Tryz.ntmps63
  go_wp2;go_ret;exact⟨Ak (by simp[As];omega),Ad⟩
 have h4:(l.length:Int)<=6:=by omega
 have p:Hid (∀j(h:j<l.length),l[j].name.size<=Bg):=fun j h=>hl.sn _ (List.getElem_mem h)
 have HV:Hid (As l=(Fo l l.length&&decide (An l<=64))):=by
  show _=_;rw[As,decide_eq_true (show 1<=l.length by omega),decide_eq_true (show l.length<=6 by omega)];rfl
 clear h1 h2
 go_enter Tryz.func63,Tryz.ntmps63
 go_wp2
 go_loopg [2,3,4] l.length (fun gh r pr i wr=>∃k:Nat,gh=l.length-k/\i=.int .i64 k/\r=.bool false/\pr=.int .i64 (An (l.take k))/\k<=l.length/\Hid (Fo l k=true)/\Below w.heap.size w wr)
 case atStart=>exact⟨0,rfl,rfl,rfl,rfl,by omega,rfl,Ad⟩
 case round=>
  obtain⟨k,q,rfl,rfl,rfl,hk,HE,hB⟩:=hrel;have HG:=Ab q;clear q
  by_cases hlt:k<l.length
  ·obtain rfl:=hl.ad (by omega);have c0:=Ag hB (hl.nn k hlt);have c2:=Ag hB (hl.nz k hlt);have hz:=hl.sz _ (List.getElem_mem hlt);have A:Hid (l.getD k Ir=l[k]):=Ae _ _ _ hlt;unfold I64 at hz;have HB:=Ab hB;clear hB
   have f:Hid (∀c,FD l k=c->c=false->false=As l):=fun c h1 h2=>by rw[HV.out,Ef hlt (h1.trans h2)];rfl
   cases hq:CP l[k].name
   ·go_wp2_with fail
    refine(Ns _ _ (p.out k hlt)).mono ?_;rintro e w2 ⟨rfl,a⟩;rw[hq];go_wp2;go_ret;exact⟨Ak (f.out _ (by rw[FD,A.out,hq];rfl) rfl),HB.out.trans (a.mono HB.out.size)⟩
   ·have HQ:=Ab hq;clear hq
    go_wp2_with fail
    refine(Ns _ _ (p.out k hlt)).mono ?_;rintro e w2 ⟨rfl,a⟩;rw[HQ.out];have d:=HB.out.trans (a.mono HB.out.size);have d0:=Ag a c0;have d2:=Ag a c2;clear c0 c2 a
    go_wp2_with fail
    refine(Rx _ _ l l[k].name (x.below d)).mono ?_;rintro e w2 ⟨rfl,rfl⟩
    cases hnw:I7 l k
    ·have y:(Fw l l[k].name !=(k:Int))=true:=by
      rw[bne_iff_ne];intro h;rw[(Lr hlt).1 h]at hnw;cases hnw
     have HF:=Ab<|f.out _ (show FD l k=false by rw[FD,A.out,HQ.out,hnw];simp) rfl;generalize Fw l l[k].name=fi at*;clear hnw;go_wp2;go_ret;exact⟨Ak HF.out,d⟩
    ·have y:(Fw l l[k].name !=(k:Int))=false:=by
      rw[(Lr hlt).2 hnw];simp
     generalize Fw l l[k].name=fi at*;have u:=Ab hnw;clear hnw
     by_cases hs:2<=l[k].size/\l[k].size<=4
     case neg=>
      have HF:=Ab<|f.out _ (show FD l k=false by
       have:AP l[k]=false:=by rw[<-Bool.not_eq_true];simp only[AP,Bool.and_eq_true,decide_eq_true_eq];exact hs
       rw[FD,A.out,this];simp) rfl
      rcases(by omega:l[k].size<2\/(2<=l[k].size/\4<l[k].size))with s|s
      all_goals
       clear hs;go_wp2;go_ret;exact⟨Ak HF.out,d⟩
     have n:AP l[k]=true:=by simp only[AP,Bool.and_eq_true,decide_eq_true_eq];exact hs
     obtain⟨⟨aa,ab⟩,m⟩:=Ht HE.out hlt (by omega) n;have o:=Ab m;have v:=Ab n;obtain⟨ac,s⟩:=hs;clear m n;generalize An (l.take k)=pr at*;have m:=o.out;go_wp2
     go_roundg (l.length-(k+1))
     case measure=>have:=HG.out;omega
     case rel=>exact⟨k+1,rfl,by go_num,rfl,by first|rw[o.out]|rfl,by omega,by show _=_;rw[JA,HE.out,FD,A.out,HQ.out,v.out,u.out];rfl,d⟩
  ·obtain rfl:k=l.length:=by omega
   rw[List.take_length];go_wp2;go_ret;exact⟨Ak (by rw[HV.out,HE.out];rfl),hB⟩
attribute [local go_sem] Oper.semAt_some
def KpW(n₀ Bs:Nat)(W W':World):Prop:=Below n₀ W W'/\W'.heap[Bs]? =W.heap[Bs]?
theorem KpW.trans{n₀ Bs:Nat}{A B C:World}(h:KpW n₀ Bs A B)(k:KpW n₀ Bs B C):KpW n₀ Bs A C:=⟨h.1.trans k.1,k.2.trans h.2⟩
theorem KpW.refl(n₀ Bs:Nat)(A:World):KpW n₀ Bs A A:=⟨Ad,rfl⟩
theorem KpW.put{n₀ Bs:Nat}{w:World}(hn:n₀<=w.heap.size)(hB:Bs<w.heap.size)(W:World)(l:Nat)(o o':Obj)(hl:w.heap.size<=l)(h:W.heap[l]? =some o)(h1:o.isCells=false)(h2:o.isWalk=false):KpW n₀ Bs W (W.putObj l o'):=
 ⟨belowK_b hn W l o o' hl h h1 h2,(grownBy_putObj' W l o').block Bs (by have:=(ltE h);omega) (by simp;omega)⟩
theorem P4{n₀:Nat}{w wr:World}{a:Addr}{v:Value}(hb:Below n₀ w wr)(ha:a.block<n₀)(h:w.cell? a=some v):wr.cell? a=some v:=(hb.cell ha).trans h
theorem Ik.belowN{n₀:Nat}{w wr:World}{ao:Option Addr}{a b c:Nat}{l:List Sig}(h:Ik w ao a b c l)(hb:Below n₀ w wr)(hn:0<l.length->b<n₀):Ik wr ao a b c l:=
 {h with
  nn:=fun j hj=>P4 hb (hn (by omega)) (h.nn j hj)
  ni:=fun j hj=>P4 hb (hn (by omega)) (h.ni j hj)
  nz:=fun j hj=>P4 hb (hn (by omega)) (h.nz j hj)}
def CT(n:Nat):List (Fin n):=List.finRange n
theorem Co(n:Nat):(CT n).length=n:=by simp[CT]
theorem CG{n k:Nat}(h:k<n):(CT n).take (k+1)=(CT n).take k++[⟨k,h⟩]:=by
 rw[List.take_succ_eq_append_getElem (by rw[Co];exact h)]
 congr 2
 simp[CT]
def Jp(l:List Sig)(x:Fin l.length):Array Value:=#[.int .i64 ((x:Nat):Int),.int .i64 (An (l.take x))]
theorem Mi(F:Fence)(n:Nat)(h7:F.fn 108)(hro:F.round=none)(hn:1<=n)(lY Bs n₀ b u c:Nat)(ao:Option Addr)(l:List Sig)(hv:As l=true)(hb:b<n₀)(J Jx:List (Fin l.length)->World->Prop)
  (hY:∀pre x W,J pre W->pre.length<l.length->YieldAt F (n-1) Tryz.prog lY (Jp l x) W fun e W'=>
   (e=.returned (.bool true)/\J (pre++[x]) W'/\KpW n₀ Bs W W')\/(e=.returned (.bool false)/\Jx (pre++[x]) W'))
  (W:World) (y:W.cell? ⟨Bs,0,none⟩=some (.slice ao l.length c)) (hl:Ik W ao c b u l) (h0:J [] W):
  CallsIn F n Tryz.prog 108 #[.func (.yield lY) #[] #[],.pointer (some ⟨Bs,0,none⟩)] W fun e W'=>(∃v,e=.returned v)/\
   ((∃ys,ys=CT l.length/\J ys W')\/(∃pre,(∃k,k<=l.length/\pre=(CT l.length).take k)/\Jx pre W')):=by
 have aj:=hl.nb;have s:=hv;simp only[As,Bool.and_eq_true,decide_eq_true_eq]at s;obtain⟨⟨⟨ai,ab⟩,hA⟩,hP⟩:=s;have HA:=Ab hA
 have ag:(l.length:Int)<=6:=by omega
 clear hA hP hv;refine callsIn_of_wp Tryz.func108 rfl h7 ?_ hro;simp only[Tryz.ntmps108,List.size_toArray,List.length_cons,List.length_nil,Nat.reduceAdd,Nat.reduceSub,Array.replicate_succ,Array.replicate_zero,List.push_toArray,List.append_toArray,List.nil_append,List.cons_append]
 gi_wp2
 gi_loopw [3,7] (fun wt i wr=>∃k:Nat,k<=l.length/\i=.int .i64 k/\wt=.int .i64 (An (l.take k))/\J ((CT l.length).take k) wr/\KpW n₀ Bs W wr)
  (fun _ i _=>l.length-(intOf i).toNat)
 case atStart=>exact⟨0,Nat.zero_le _,rfl,rfl,h0,KpW.refl _ _ _⟩
 case round=>
  obtain⟨k,hk,rfl,rfl,d,ac⟩:=hrel
  by_cases hlt:k<l.length
  ·obtain⟨fn,af,w,ae,hy,hR⟩:=hY _ ⟨k,hlt⟩ wr d (by rw[List.length_take,Co];omega);dsimp only[Jp]at hy
   have q:Fo l k=true:=by
    rw[Fo,List.all_eq_true];intro j hj;exact List.all_eq_true.1 HA.out j (List.mem_range.2 (by have:=List.mem_range.1 hj;omega))
   have o:AP l[k]=true:=by
    have:=List.all_eq_true.1 HA.out k (List.mem_range.2 hlt);simp only[FD,Bool.and_eq_true]at this;have e:=this.1.2
    rwa [Ae _ _ _ hlt]at e
   obtain⟨⟨ak,al⟩,m⟩:=Ht q hlt ab o;simp only[AP,Bool.and_eq_true,decide_eq_true_eq]at o;obtain⟨am,an⟩:=o;have p:=Ab m;clear m q;generalize An (l.take k)=pr at*;obtain rfl:=hl.ad (by omega)
   gi_wp2
   refine hR.mono ?_;rintro e W3 (⟨rfl,z,aa⟩|⟨rfl,r⟩)
   ·have f:=ac.trans aa;have ah:W3.cell? ⟨Bs,0,none⟩=some (.slice (some ⟨b,u,none⟩) l.length c):=(World.cell?_of_block (a:=⟨Bs,0,none⟩) f.2).trans y;have c2:=(hl.belowN f.1 (fun _=>hb)).nz k hlt;have m:=p.out
    gi_wp2
    go_roundw
    case rel=>exact⟨k+1,by omega,by go_num,by first|rw[p.out]|rfl,by rw[CG hlt];exact z,f⟩
    case measure=>simp[intOf];omega
   ·gi_wp2
    refine bodyPost_ret (results_none rfl _ _ _) rfl ?_;exact⟨⟨_,rfl⟩,.inr ⟨_,⟨k+1,by omega,(CG hlt).symm⟩,r⟩⟩
  ·obtain rfl:k=l.length:=by omega
   gi_wp2
   go_end0
   exact⟨⟨_,rfl⟩,.inl ⟨_,rfl,by rw[List.take_of_length_le (by rw[Co];exact Nat.le_refl _)]at d;exact d⟩⟩
theorem DJ(w:World)(ao:Option Addr)(n a:Nat):
  Calls Tryz.prog 68 #[.slice ao n a] w fun e w'=>e=.returned (.func (.func 108) #[] #[.pointer (some ⟨w.heap.size,0,none⟩)])/\w'=w.alloc (.cells #[.slice ao n a] 22):=by
 go_enter Tryz.func68,Tryz.ntmps68
 go_wp2;go_ret;exact⟨rfl,rfl⟩
theorem Ci(F:Fence)(n:Nat)(h7:F.fn 108)(f:F.round=none)(hn:1<=n)(Bs n₀ b c a:Nat)(ao:Option Addr)(l:List Sig)(hv:As l=true)(hb:b<n₀)(w:World)(d:Bs<w.heap.size)(_:n₀<=w.heap.size)
  (e:w.cell? ⟨Bs,0,none⟩=some (.slice ao l.length a)) (hl:Ik w ao a b c l):
  SeqStopsK F n Tryz.prog 108 #[.pointer (some ⟨Bs,0,none⟩)] (Jp l) (KpW n₀ Bs) (fun ys=>ys=CT l.length) (fun pre=>∃k,k<=l.length/\pre=(CT l.length).take k) l.length w:=fun lY J Jx W hW _ _ hY h0=>
 Mi F n h7 f hn lY Bs n₀ b c a ao l hv hb J Jx hY W ((hW.cell (p:=⟨Bs,0,none⟩) d).trans e) (hl.below hW) h0
def Pc(s:Sig):Value:=.agg #[.string s.name,.bool s.inp,.int .i64 s.size]
theorem Uc(W:World)(s:Sig):Calls Tryz.prog 107 #[Pc s] W (Av (.bool true) W):=by
 unfold Pc
 go_enter Tryz.func107,Tryz.ntmps107
 go_wp2;go_ret;exact⟨rfl,(by repeat(first|exact Ad|assumption|apply AE|apply AB))⟩
theorem Ud(W:World)(s:Sig):Calls Tryz.prog 113 #[Pc s] W (Av (.bool s.inp) W):=by
 unfold Pc
 go_enter Tryz.func113,Tryz.ntmps113
 go_wp2;go_ret;exact⟨rfl,(by repeat(first|exact Ad|assumption|apply AE|apply AB))⟩
theorem Ue(W:World)(s:Sig):Calls Tryz.prog 114 #[Pc s] W (Av (.bool (!s.inp)) W):=by
 unfold Pc
 go_enter Tryz.func114,Tryz.ntmps114
 go_wp2;go_ret;exact⟨rfl,(by repeat(first|exact Ad|assumption|apply AE|apply AB))⟩
def A9(ch:Sig->Bool):List Sig->Int
 |[]=>1
 |s::r=>if ch s then s.size*A9 ch r else A9 ch r
def BD(ch:Sig->Bool)(l:List Sig)(pre:List (Fin l.length)):Int:=pre.foldl (fun p x=>if ch l[x]then p*l[x].size else p) 1
theorem De(ch:Sig->Bool)(l:List Sig)(pre:List (Fin l.length))(x:Fin l.length):BD ch l (pre++[x])=if ch l[x]then BD ch l pre*l[x].size else BD ch l pre:=by simp[BD]
theorem Jh{ch:Sig->Bool}{l:List Sig}(h:∀s∈l,AP s=true)(pre:List (Fin l.length)):1<=BD ch l pre/\BD ch l pre<=4^pre.length:=by
 have b:∀(n:Nat)(pre:List (Fin l.length)),pre.length=n->1<=BD ch l pre/\BD ch l pre<=4^pre.length:=by
  intro n
  induction n with
  |zero=>intro pre hp;rw[List.eq_nil_of_length_eq_zero hp];simp[BD]
  |succ n ih=>
   intro pre hp
   have a:pre≠[]:=by intro e;rw[e]at hp;simp at hp
   rw[<-List.dropLast_concat_getLast a];obtain⟨h1,h2⟩:=ih pre.dropLast (by simp[hp]);have hs:=h l[pre.getLast a] (List.getElem_mem _);simp only[AP,Bool.and_eq_true,decide_eq_true_eq]at hs;rw[De,List.length_append,List.length_singleton,Int.pow_succ]
   split
   ·refine⟨?_,Int.mul_le_mul h2 hs.2 (by omega) (by omega)⟩;have:=Int.mul_le_mul h1 (show(1:Int)<=l[pre.getLast a].size by omega) (by omega) (by omega);omega
   ·omega
 exact b _ pre rfl
theorem M7(ch:Sig->Bool)(l:List Sig)(k:Nat)(hk:k<=l.length):BD ch l ((CT l.length).take k)*A9 ch (l.drop k)=A9 ch l:=by
 induction k with
 |zero=>simp[BD]
 |succ k ih=>
  have h:=ih (by omega);rw[D8 l k (by omega)]at h;rw[CG (by omega),De,<-h];simp only[A9,Fin.getElem_fin]
  split
  ·rw[Int.mul_assoc]
  ·rfl
theorem Hs(ch:Sig->Bool)(l:List Sig):BD ch l (CT l.length)=A9 ch l:=by
 have:=M7 ch l l.length leR;rw[List.take_of_length_le (by rw[Co];exact Nat.le_refl _),List.drop_length,A9,Int.mul_one]at this;exact this
attribute [local go_sem] Oper.semAt_some
theorem Hu{p z:Int}(h1:1<=p)(h2:p<=4096)(h3:2<=z)(h4:z<=4):IntKind.i64.wrap (p*z)=p*z:=by
 refine IntWalk.i64_in _ ⟨?_, ?_⟩
 ·have:=Int.mul_nonneg (show 0<=p by omega) (show 0<=z by omega);omega
 ·have:=Int.mul_le_mul h2 h4 (by omega) (by omega);omega
theorem FY(w:World)(v:Value)(t:TypeId):(w.alloc (.cells #[v] t)).cell? ⟨w.heap.size,0,none⟩=some v:=cell_of_row _ _ 0 #[v] t (0,0) (heap_alloc_new _ _)
theorem Tz(w:World)(v:Value)(t:TypeId):(w.alloc (.cells #[v] t)).frozen? ⟨w.heap.size,0,none⟩=false:=At 0 (heap_alloc_new _ _)
theorem El{B:Nat}{W W':World}(h:Below W.heap.size W W'):KeepsFrom B W W':=⟨h.size,fun i _ _ hi _=>(h.block i (ltE hi)).trans hi⟩
def Dq(w:World)(vs vf:Value)(p:Int)(W:World):Prop:=
 W.cell? ⟨w.heap.size+2,0,none⟩=some (.int .i64 p)/\W.frozen? ⟨w.heap.size+2,0,none⟩=false/\W.cell? ⟨w.heap.size,0,none⟩=some vs/\W.cell? ⟨w.heap.size+1,0,none⟩=some vf/\W.cell? ⟨w.heap.size+3,0,none⟩=some vs
theorem Gk(w:World)(vs vf:Value){α:Type}(f:α->Int)(B:Nat):OwnFrom B (fun(s:α)W=>Dq w vs vf (f s) W):=
 Own.from (fun _ _ _ _ hs hg hr=>⟨cell_kept hs.1 hg hr,(frozen_kept hs.1 hg hr).trans hs.2.1,cell_kept hs.2.2.1 hg hr,cell_kept hs.2.2.2.1 hg hr,cell_kept hs.2.2.2.2 hg hr⟩) _
theorem Dq.below{w W W3:World}{vs vf:Value}{p:Int}(h:Dq w vs vf p W)(hb:Below W.heap.size W W3):Dq w vs vf p W3:=
 ⟨Ag hb h.1,(hb.frozen (p:=⟨w.heap.size+2,0,none⟩) (World.block_lt_of_cell? W _ h.1)).trans h.2.1,Ag hb h.2.2.1,Ag hb h.2.2.2.1,Ag hb h.2.2.2.2⟩
theorem E4{W:World}{a b:Nat}{u v:Value}(h:W.cell? ⟨a,0,none⟩=some v)(c:a≠b):(W.setCell ⟨b,0,none⟩ u).cell? ⟨a,0,none⟩=some v:=
 (World.cell?_of_block (a:=⟨a,0,none⟩) (heap_setCell_other W ⟨b,0,none⟩ a u c)).trans h
theorem Dq.set{w W:World}{vs vf:Value}{p:Int}(h:Dq w vs vf p W)(q:Int):Dq w vs vf q (W.setCell ⟨w.heap.size+2,0,none⟩ (.int .i64 q)):=
 ⟨World.cell?_setCell_same' _ _ _ (by rw[h.1];rfl),by rw[World.frozen?_setCell];exact h.2.1,E4 h.2.2.1 (by omega),E4 h.2.2.2.1 (by omega),E4 h.2.2.2.2 (by omega)⟩
theorem Ft{B:Nat}{w W W3:World}{vs vf:Value}{p q:Int}(h:Dq w vs vf p W)(hB:Below w.heap.size w W)(hb:Below W.heap.size W W3):
  KeepsFrom B W (W3.setCell ⟨w.heap.size+2,0,none⟩ (.int .i64 q)).drew/\KpW w.heap.size (w.heap.size+3) W (W3.setCell ⟨w.heap.size+2,0,none⟩ (.int .i64 q)).drew/\
   Dq w vs vf q (W3.setCell ⟨w.heap.size+2,0,none⟩ (.int .i64 q)).drew/\Below w.heap.size w (W3.setCell ⟨w.heap.size+2,0,none⟩ (.int .i64 q)).drew:=by
 have h3:=(h.below hb).set q;have a:Below w.heap.size W (W3.setCell ⟨w.heap.size+2,0,none⟩ (.int .i64 q)).drew:=((hb.mono hB.size).setCell (p:=⟨w.heap.size+2,0,none⟩) (by simp) _).trans (Below.drew Ad);refine⟨((El hb).trans ((KeepsOthers.setCell _ _ _).from _)).trans ((KeepsOthers.drew _).from _),⟨a, ?_⟩,h3,hB.trans a⟩;show(W3.setCell ⟨w.heap.size+2,0,none⟩ (.int .i64 q)).heap[w.heap.size+3]? =_;rw[heap_setCell_other W3 ⟨w.heap.size+2,0,none⟩ (w.heap.size+3) _ (by simp)];exact hb.block _ (World.block_lt_of_cell? W _ h.2.2.2.2)
theorem IV{B:Nat}{w W W3:World}{vs vf:Value}{p:Int}(h:Dq w vs vf p W)(hB:Below w.heap.size w W)(hb:Below W.heap.size W W3):
  KeepsFrom B W W3/\KpW w.heap.size (w.heap.size+3) W W3/\Dq w vs vf p W3/\Below w.heap.size w W3:=
 ⟨El hb,⟨hb.mono hB.size,hb.block _ (World.block_lt_of_cell? W _ h.2.2.2.2)⟩,h.below hb,hB.trans (hb.mono hB.size)⟩
theorem P8(w:World)(vl:Value)(l:List Sig)(hK:B7 w)(hl:AD w vl l):
  Calls Tryz.prog 106 #[vl,.func (.func 107) #[] #[]] w (Av (.int .i64 (if As l then A9 (fun _=>true) l else 0)) w):=by
 have k:=hl;obtain⟨ao,cap,b,off,rfl,hl⟩:=hl;have hn:=hl.nb
 cases hv:As l
 ·go_enter Tryz.func106,Tryz.ntmps106
  go_wp2_with fail
  refine(CC _ _ l (hK.below (by repeat(first|exact Ad|assumption|apply AE|apply AB))) (k.below (by repeat(first|exact Ad|assumption|apply AE|apply AB)))).mono ?_;rintro e w1 ⟨rfl,n,rfl⟩;rw[hv];go_wp2;go_ret;exact⟨rfl,AB (by repeat(first|exact Ad|assumption|apply AE|apply AB)) _⟩
 have hV:Hid (∀W,Below w.heap.size w W->Calls Tryz.prog 41 #[.slice ao l.length cap] W (DZ (.bool true) W)):=fun W hW=>by
  have:=CC W _ l (hK.below hW) (k.below hW)
  rwa [hv]at this
 refine callsIn_wide (n:=5)|>.1 ?_;refine callsIn_of_wp_marks Tryz.func106 rfl trivial ?_;simp only[Tryz.ntmps106,List.size_toArray,List.length_cons,List.length_nil,Nat.reduceAdd,Nat.reduceSub,Array.replicate_succ,Array.replicate_zero,List.push_toArray,List.append_toArray,List.nil_append,List.cons_append]
 gi_wp2_with fail
 refine⟨trivial, ?_⟩;refine(callsIn_wide.2 (hV.out _ (by repeat(first|exact Ad|assumption|apply AE|apply AB)))).mono ?_;rintro e w1 ⟨rfl,n1,f⟩
 have o:Below w.heap.size w w1:=by rw[f];exact AB (by repeat(first|exact Ad|assumption|apply AE|apply AB)) _
 have i:w1.heap.size=w.heap.size+2:=by rw[f];simp[World.drewN]
 have c0:w1.cell? ⟨w.heap.size,0,none⟩=some (.slice ao l.length cap):=by rw[f];exact P3 n1 (Ag (Ao _) (FY w _ _))
 have c1:w1.cell? ⟨w.heap.size+1,0,none⟩=some (.func (.func 107) #[] #[]):=by rw[f];have:=FY (w.alloc (.cells #[.slice ao l.length cap] 22)) (.func (.func 107) #[] #[]) 148;rwa [World.size_alloc]at this
 clear f
 gi_wp2_with fail
 refine⟨trivial, ?_⟩;refine(callsIn_wide.2 (DJ _ _ _ _)).mono ?_;rintro e w2 ⟨rfl,a⟩
 gi_wp2_with fail
 rw[<-a]
 have hB2:Below w.heap.size w w2:=by rw[a];exact o.trans ((((Below.refl _ w1).alloc leR _).alloc (by simp) _).mono (by omega))
 have am:w2.heap.size=w.heap.size+4:=by rw[a];simp[i]
 have e0:w2.cell? ⟨w.heap.size,0,none⟩=some (.slice ao l.length cap):=by rw[a];exact Ag (Ao _) (Ag (Ao _) c0)
 have e1:w2.cell? ⟨w.heap.size+1,0,none⟩=some (.func (.func 107) #[] #[]):=by rw[a];exact Ag (Ao _) (Ag (Ao _) c1)
 have en:=FY w1 (.int .i64 1) 3
 have e2:w2.cell? ⟨w.heap.size+2,0,none⟩=some (.int .i64 1):=by rw[a,<-i];exact Ag (Ao _) en
 have f2:w2.frozen? ⟨w.heap.size+2,0,none⟩=false:=by rw[a,<-i];exact((Ao _).frozen (p:=⟨w1.heap.size,0,none⟩) (by simp)).trans (Tz w1 _ _)
 have e3:w2.cell? ⟨w.heap.size+3,0,none⟩=some (.slice ao l.length cap):=by
  have:=FY (w1.alloc (.cells #[.int .i64 1] 3)) (.slice ao l.length cap) 22;rw[World.size_alloc,i]at this;rw[a];exact this
 have aa:=hv;simp only[As,Bool.and_eq_true,decide_eq_true_eq]at aa;obtain⟨⟨⟨ah,ai⟩,hA⟩,-⟩:=aa
 have z:∀s∈l,AP s=true:=fun s hs=>Fp hA leR s (by rwa [List.take_length])
 have hb:b<w.heap.size:=by
  have:=World.block_lt_of_cell? w _ (hl.nn 0 (by omega));exact this
 have aj:Tryz.prog.follows .mixedOrders=true:=by kernel_rfl
 clear hA c0 c1 en a o i
 refine wpIn_rangeFunc_ownG rfl (by omega) (gf:=108) (lb:=#[.pointer (some ⟨w.heap.size+2+1,0,none⟩)]) rfl trivial (enters_of Tryz.func108 (by kernel_rfl) rfl)
  (Ci Fence.wide (5-1) trivial rfl (by omega) (w.heap.size+3) w.heap.size b off cap ao l hv hb w2 (by omega) (by omega) e3 (hl.below hB2)) KpW.trans (KpW.put (by omega) (by omega)) Ad (fun _=>rfl)
  (fun pre W=>Dq w (.slice ao l.length cap) (.func (.func 107) #[] #[]) (BD (fun _=>true) l pre) W/\Below w.heap.size w W)
  (fun _ _ _=>False)
  (OwnFrom.and (Gk w _ _ (BD (fun _=>true) l) _) (ownFrom_below leR (by omega)))
  (fun _ _ _ _ _ hs _ _=>hs)
  ⟨⟨e2,f2,e0,e1,e3⟩,hB2⟩
  (fun x=>{tmps:=#[.slice ao l.length cap,.func (.func 107) #[] #[],.pointer (some ⟨w.heap.size,0,none⟩),.pointer (some ⟨w.heap.size+1,0,none⟩),.int .i64 0,.pointer (some ⟨w.heap.size+2,0,none⟩),.int .i64 ((x:Nat):Int),.slice ao l.length cap,.bool true,.bool false,.slice ao l.length cap,.func (.func 108) #[] #[.pointer (some ⟨w.heap.size+2+1,0,none⟩)],.int .i64 ((x:Nat):Int),.int .i64 (An (l.take x)),undef,undef,undef,undef,undef,undef,undef,undef,undef,undef,undef,undef,undef,undef],defers:=[]}) ?assign ?body ?done ?stop
 case assign=>
  intro lY x W K hK;unfold Jp
  gi_wp2
  exact hK
 case body=>
  rintro lY pre x W ⟨hI,hB⟩ ak;obtain⟨q2,g2,q0,q1,-⟩:=id hI
  have hd:1<=5-1-1:=by omega
  have j:=hl.below hB;obtain⟨x,hx⟩:=x;have n0:=j.nn x hx;have n1:=j.ni x hx;have n2:=j.nz x hx;obtain rfl:=hl.ad (by omega)
  have r:∀W:World,Calls Tryz.prog 107 #[.agg #[.string l[x].name,.bool l[x].inp,.int .i64 l[x].size]] W (Av (.bool true) W):=fun W=>Uc W l[x]
  have m:=Ab r;clear r k hK hV hn
  gi_upto_region 6 with(fail)
  gi_cut [19]from 14 (fun v wx=>∃W3:World,W3=wx/\v=.bool true/\Below W.heap.size W W3)
  case first=>
   gi_region_with_o (refine⟨trivial, ?_⟩;gi_at_call 107;refine(CallsIn.inRound lY (callsIn_wide.2 (m.out _))).mono ?_;rintro e W3 ⟨rfl,d⟩)
   all_goals gi_wp2_with fail
   all_goals
    gi_meet
    case rel=>exact⟨_,rfl,rfl,(Below.drew Ad).trans d⟩
  case rest=>
   obtain⟨W3,rfl,rfl,d⟩:=hcut;have y:=z _ (List.getElem_mem hx);obtain⟨ac,u⟩:=Jh (ch:=fun _=>true) z pre;have ae:BD (fun _=>true) l pre<=4096:=Int.le_trans u (Jd (by omega));simp only[AP,Bool.and_eq_true,decide_eq_true_eq]at y;obtain⟨af,ag⟩:=y;have al:=Hu ac ae af ag;have ab:Hid (BD (fun _=>true) l (pre++[⟨x,hx⟩])=BD (fun _=>true) l pre*l[x].size):=De _ _ _ _;have r2:=Ag d q2;have r0:=Ag d q0;have m2:=Ag d n2;have g3:W3.frozen? ⟨w.heap.size+2,0,none⟩=false:=(d.frozen (p:=⟨w.heap.size+2,0,none⟩) (World.block_lt_of_cell? W _ q2)).trans g2;have r1:=Ag d q1;have HI:=Ab hI;clear q2 q0 q1 n0 n1 n2 g2 e0 e1 e2 e3 f2 m u j hI;generalize BD (fun _=>true) l pre=pp at*
   gi_wp2
   gi_region_with_o (fail)
   all_goals gi_wp2
   all_goals
    have hr:=Ft (B:=w2.heap.size) (q:=pp*l[x].size) HI.out hB d;exact⟨hr.1,hr.2.1,by rw[ab.out];exact hr.2.2.1,hr.2.2.2⟩
 case done=>
  rintro D ys W hD rfl ⟨⟨q2,g2,q0,q1,-⟩,hB⟩ hK
  gi_wp2
  refine⟨by simp,.inl ⟨_,_,rfl,run_takeDeferred hK, ?_⟩⟩;exact⟨_,results_tmp rfl _ _ _,by simp[Hs],hB.trans (belowK_b (w:=w) leR W D _ _ (by omega) hK rfl rfl)⟩
 case stop=>
  rintro D c pre W _ _ h _;exact h.elim
theorem M6(ch:Sig->Bool)(l:List Sig)(s:Sig):A9 ch (l++[s])=if ch s then A9 ch l*s.size else A9 ch l:=by
 induction l with
 |nil=>simp only[List.nil_append,A9];split<;>simp
 |cons a l ih=>
  simp only[List.cons_append,A9,ih]
  split<;>split<;>simp[Int.mul_assoc]
theorem Gt{ch:Sig->Bool}{l:List Sig}{k:Nat}(h:k<l.length):A9 ch (l.take (k+1))=if ch l[k]then A9 ch (l.take k)*l[k].size else A9 ch (l.take k):=by
 rw[List.take_succ_eq_append_getElem h,M6]
theorem Je(ch:Sig->Bool)(l:List Sig)(h:∀s∈l,AP s=true):1<=A9 ch l/\A9 ch l<=4^l.length:=by
 induction l with
 |nil=>simp[A9]
 |cons a l ih=>
  obtain⟨h1,h2⟩:=ih (fun s hs=>h s (List.mem_cons_of_mem _ hs));have ha:=h a List.mem_cons_self;simp only[AP,Bool.and_eq_true,decide_eq_true_eq]at ha;rw[A9,List.length_cons,Int.pow_succ];have h3:=Int.mul_le_mul ha.2 h2 (by omega) (by omega);have h4:=Int.mul_le_mul (show(1:Int)<=a.size by omega) h1 (by omega) (by omega);have h5:(4:Int)*4^l.length=4^l.length*4:=Int.mul_comm _ _
  split<;>omega
theorem Jf(l:List Sig):A9 (fun s=>s.inp) l*A9 (fun s=> !s.inp) l=An l:=by
 induction l with
 |nil=>rfl
 |cons a l ih=>
  simp only[A9,An,<-ih]
  rcases Bool.eq_false_or_eq_true a.inp with h|h
  ·rw[if_pos h,if_neg (by rw[h];simp),Int.mul_assoc]
  ·rw[if_neg (by rw[h];simp),if_pos (by rw[h];rfl),Int.mul_left_comm]
theorem Jg(l:List Sig):A9 (fun _=>true) l=An l:=by
 induction l with
 |nil=>rfl
 |cons a l ih=>simp[A9,An,ih]
theorem Eo{p z:Int}(h1:1<=p)(h2:p<=4096)(h3:2<=z)(h4:z<=4):IntKind.i64.wrap (p*z)=p*z:=by
 refine IntWalk.i64_in _ ⟨?_, ?_⟩
 ·have:=Int.mul_nonneg (show 0<=p by omega) (show 0<=z by omega);omega
 ·have:=Int.mul_le_mul h2 h4 (by omega) (by omega);omega
def Hb(l:List Sig)(b:Bool):Int:=if As l then A9 (fun s=>s.inp==b) l else 0
theorem AN{l:List Sig}(h:As l=true):(∀s∈l,AP s=true)/\1<=l.length/\l.length<=6/\An l<=64:=by
 simp only[As,Bool.and_eq_true,decide_eq_true_eq]at h;exact⟨fun s hs=>Fp h.1.2 leR s (by rwa [List.take_length]),h.1.1.1,h.1.1.2,h.2⟩
theorem Q3(w:World)(vl:Value)(l:List Sig)(q:Bool)(hl:AD w vl l):Calls Tryz.prog 104 #[vl,.bool q] w (Av (.int .i64 (Hb l q)) w):=by
 have hlx:=hl;obtain⟨ao,r,b,x,rfl,hl⟩:=hl;have hn:=hl.nb
 have HS:Hid (∀c,As l=c->Hb l q=if c then A9 (fun s=>s.inp==q) l else 0):=fun c h=>by unfold Hb;rw[h]
 cases hv:As l
 ·go_enter Tryz.func104,Tryz.ntmps104
  go_wp2_with fail
  refine(DB _ _ l hlx).mono ?_;rintro e w1 ⟨rfl,hb⟩;rw[hv];go_wp2;go_ret;exact⟨Cj (by rw[HS.out _ hv];rfl),hb⟩
 obtain⟨hz,u,v,-⟩:=AN hv;have HZ:=Ab hz;have HV:=Ab hv;clear hz hv
 go_enter Tryz.func104,Tryz.ntmps104
 go_wp2_with fail
 refine(DB _ _ l hlx).mono ?_;rintro e w1 ⟨rfl,hb⟩;rw[HV.out];go_wp2
 go_loop [5,6] (fun p i=>∃k:Nat,i=.int .i64 k/\p=.int .i64 (A9 (fun s=>s.inp==q) (l.take k))/\k<=l.length) (fun _ i=>l.length-(intOf i).toNat)
 case atStart=>exact⟨0,rfl,rfl,by omega⟩
 case round=>
  obtain⟨k,rfl,rfl,hk⟩:=hrel
  by_cases hlt:k<l.length
  ·obtain rfl:=hl.ad (by omega);have c1:=Ag hb (hl.ni k hlt);have c2:=Ag hb (hl.nz k hlt);obtain⟨f,a⟩:=Je (fun s=>s.inp==q) (l.take k) (fun s hs=>HZ.out s (List.mem_of_mem_take hs));have j:A9 (fun s=>s.inp==q) (l.take k)<=4096:=Int.le_trans a (Jd (by rw[List.length_take];omega));have d:=HZ.out _ (List.getElem_mem hlt);simp only[AP,Bool.and_eq_true,decide_eq_true_eq]at d;obtain⟨n,o⟩:=d;have m:=Eo f j n o;have HT:=Ab (Gt (ch:=fun s=>s.inp==q) hlt);clear a;generalize A9 (fun s=>s.inp==q) (l.take k)=pp at*
   cases hq:(l[k].inp==q)
   ·go_wp2
    go_round
    case rel=>exact⟨k+1,by go_num,by rw[HT.out,hq];rfl,by omega⟩
    case measure=>simp[intOf];omega
   ·go_wp2
    go_round
    case rel=>exact⟨k+1,by go_num,by rw[HT.out,hq];first|rfl|(rw[m];rfl),by omega⟩
    case measure=>simp[intOf];omega
  ·obtain rfl:k=l.length:=by omega
   rw[List.take_length];go_wp2;go_ret;exact⟨Cj (by rw[HS.out _ HV.out];rfl),hb⟩
end Go.Proofs.YtncjeamdkjcebaaGreatDoor
