/- Signals: Valid, Letters, Inputs, Outputs, In, Out, Join, and the reference's. -/
import Derived.Deep.CutBlock
import Derived.RangeFuncNested
import Derived.RangeFuncBound
import Derived.RangeFuncCalls
import Derived.RangeFuncLeaves
import Derived.Shelf.Abstract
import Derived.Shelf.RegionOpen
import Derived.OwnWalkIn
import Derived.TacticsInMore
import Derived.LoopNIn
import Derived.LoopIn
import Derived.Sort.CutIn
import Derived.Deep.RegionWith
import Derived.StillTail
import Derived.StillTailTactics
import Derived.OrdersIn
import Derived.Test.YtncjeamdkjcebaaGreatDoorZBase
set_option linter.all false
set_option maxHeartbeats 4000000
set_option maxRecDepth 100000
namespace Go.Proofs.YtncjeamdkjcebaaGreatDoor
open Go.RowKit
open Go.RowKit Go.Shelf
open Go
structure Sig where
 name:ByteArray
 inp:Bool
 size:Int
def EL:Sig:=⟨⟨#[]⟩,false,0⟩
structure Hm(w:World)(ao:Option Addr)(cap b off:Nat)(l:List Sig):Prop where
 lc:l.length<=cap
 cm:cap<=maxLen
 nm:l.length<=Bk
 ad:0<l.length->ao=some ⟨b,off,none⟩
 nn:∀j(h:j<l.length),w.cell? ⟨b,off+j*3,none⟩=some (.string l[j].name)
 ni:∀j(h:j<l.length),w.cell? ⟨b,off+j*3+1,none⟩=some (.bool l[j].inp)
 nz:∀j(h:j<l.length),w.cell? ⟨b,off+j*3+2,none⟩=some (.int .i64 l[j].size)
 sz:∀s∈l,I64 s.size
 sn:∀s∈l,s.name.size<=Bk
def AH(w:World)(v:Value)(l:List Sig):Prop:=∃ao cap b off,v=.slice ao l.length cap/\Hm w ao cap b off l
theorem Hm.below{w wr:World}{ao:Option Addr}{cap b off:Nat}{l:List Sig}(h:Hm w ao cap b off l)(hb:Below w.heap.size w wr):Hm wr ao cap b off l:=
 {h with
  nn:=fun j hj=>Ah hb (h.nn j hj)
  ni:=fun j hj=>Ah hb (h.ni j hj)
  nz:=fun j hj=>Ah hb (h.nz j hj)}
theorem AH.below{w wr:World}{v:Value}{l:List Sig}(h:AH w v l)(hb:Below w.heap.size w wr):AH wr v l:=by
 obtain⟨ao,cap,b,off,rfl,h⟩:=h;exact⟨ao,cap,b,off,rfl,h.below hb⟩
theorem Hm.nb{w:World}{ao:Option Addr}{cap b off:Nat}{l:List Sig}(h:Hm w ao cap b off l):l.length<=140737488351232:=h.nm
def Ir:List (List UInt8):=[[105,110,112,117,116],[111,117,116,112,117,116],[112,97,114,116],[97,115,115,117,109,101],[103,117,97,114,97,110,116,101,101],[116,114,117,101],[102,97,108,115,101],[97,100,100],[100,114,111,112],[114,101,112,108,97,99,101]]
def BQ(j:Nat):ByteArray:=⟨(Ir.getD j []).toArray⟩
def BN(w:World):Prop:=∀j,j<10->w.cell? ⟨0,j,none⟩=some (.string (BQ j))
theorem BN.below{w wr:World}(h:BN w)(hb:Below w.heap.size w wr):BN wr:=fun j hj=>Ah hb (h j hj)
def ER(s:ByteArray):Bool:=Ir.contains s.toList
def FE(first:Bool)(c:UInt8):Bool:=(decide (97<=c.toNat)&&decide (c.toNat<=122))||(!first&&((decide (48<=c.toNat)&&decide (c.toNat<=57))||decide (c.toNat=95)))
def CE(s:ByteArray):Bool:=decide (1<=s.size)&&decide (s.size<=12)&&(List.range s.size).all (fun i=>FE (decide (i=0)) (s.data.toList.getD i 0))&& !ER s
def FF(s:ByteArray):List Sig->Nat->Int
 |[],_=>-1
 |x::r,k=>if x.name.toList=s.toList then k else FF s r (k+1)
def E5(l:List Sig)(s:ByteArray):Int:=FF s l 0
theorem DE{α:Type}(l:List α)(k:Nat)(h:k<l.length):l.drop k=l[k]::l.drop (k+1):=List.drop_eq_getElem_cons h
theorem Mv{l:List Sig}{k:Nat}(s:ByteArray)(h:k<l.length):FF s (l.drop k) k=if l[k].name.toList=s.toList then(k:Int)else FF s (l.drop (k+1)) (k+1):=by
 rw[DE l k h];rfl
theorem Q7(w:World)(vl:Value)(l:List Sig)(s:ByteArray)(hl:AH w vl l):
  Calls Tryz.prog 103 #[vl,.string s] w fun e w'=>e=.returned (.int .i64 (E5 l s))/\w=w':=by
 obtain⟨ao,cap,b,off,rfl,hl⟩:=hl;have hn:=hl.nb
 go_enter Tryz.func103,Tryz.ntmps103
 go_wp2
 go_loop [4,5] (fun r i=>∃k:Nat,i=.int .i64 k/\r=.int .i64 0/\k<=l.length/\Hid (E5 l s=FF s (l.drop k) k)) (fun _ i=>l.length-(intOf i).toNat)
 case atStart=>exact⟨0,rfl,rfl,by omega,by simp[Hid,E5]⟩
 case round=>
  obtain⟨k,rfl,rfl,hk,HE⟩:=hrel
  by_cases hlt:k<l.length
  ·obtain rfl:=hl.ad (by omega);have c:=hl.nn k hlt;have HD:=Ab (Mv s hlt);go_wp2
   ·have hq:(l[k].name.toList==s.toList)=true:=by assumption
    go_ret;exact⟨Dy (by rw[HE.out,HD.out,if_pos (by simpa using hq)]),rfl⟩
   ·have hq:(l[k].name.toList==s.toList)=false:=by assumption
    go_round
    case rel=>exact⟨k+1,by go_num,rfl,by omega,by show _=_;rw[HE.out,HD.out,if_neg (by simpa using hq)]⟩
    case measure=>simp[intOf];omega
  ·go_wp2;go_ret;refine⟨Dy ?_,rfl⟩;rw[HE.out,List.drop_eq_nil_of_le (by omega)];rfl
def Ds(s:ByteArray)(k:Nat):Bool:=(List.range k).all (fun i=>FE (decide (i=0)) (s.data.toList.getD i 0))
theorem E8(k:Nat)(_h:k<10):(BQ k).toList=Ir.getD k []:=by
 rw[ByteArray.toList_eq];simp[BQ]
theorem MC(k:Nat)(h:k<10):∀W:World,(Instr.index 161 (.agg #[.string (BQ 0),.string (BQ 1),.string (BQ 2),.string (BQ 3),.string (BQ 4),.string (BQ 5),.string (BQ 6),.string (BQ 7),.string (BQ 8),.string (BQ 9)]) (.int .i64 (k:Int))).run Tryz.prog W=.ok (.string (BQ k)) W:=by
 match k,h with
 |0,_=>exact fun _=>by kernel_rfl
 |1,_=>exact fun _=>by kernel_rfl
 |2,_=>exact fun _=>by kernel_rfl
 |3,_=>exact fun _=>by kernel_rfl
 |4,_=>exact fun _=>by kernel_rfl
 |5,_=>exact fun _=>by kernel_rfl
 |6,_=>exact fun _=>by kernel_rfl
 |7,_=>exact fun _=>by kernel_rfl
 |8,_=>exact fun _=>by kernel_rfl
 |9,_=>exact fun _=>by kernel_rfl
theorem Eu{c:UInt8}(h:(97<=(c.toNat:Int)/\(c.toNat:Int)<=122)\/(48<=(c.toNat:Int)/\(c.toNat:Int)<=57)\/(c.toNat:Int)=95):FE false c=true:=by
 simp only[FE,Bool.or_eq_true,Bool.and_eq_true,decide_eq_true_eq,Bool.not_false,true_and];omega
theorem Do{c:UInt8}(h:¬((97<=(c.toNat:Int)/\(c.toNat:Int)<=122)\/(48<=(c.toNat:Int)/\(c.toNat:Int)<=57)\/(c.toNat:Int)=95)):FE false c=false:=by
 rw[<-Bool.not_eq_true];simp only[FE,Bool.or_eq_true,Bool.and_eq_true,decide_eq_true_eq,Bool.not_false,true_and];omega
theorem Hd{c:UInt8}(h:97<=(c.toNat:Int)/\(c.toNat:Int)<=122):FE (decide (0=0)) c=true:=by
 simp only[FE,Bool.or_eq_true,Bool.and_eq_true,decide_eq_true_eq];omega
theorem B7{c:UInt8}(h:¬(97<=(c.toNat:Int)/\(c.toNat:Int)<=122)):FE (decide (0=0)) c=false:=by
 rw[<-Bool.not_eq_true];simp[FE];omega
theorem Cl(p:Nat->Bool)(k:Nat):(List.range (k+1)).all p=((List.range k).all p&&p k):=by
 rw[List.range_succ,List.all_append];simp
theorem A6(p:Nat->Bool)(n k:Nat)(h:k<n)(hp:p k=false):(List.range n).all p=false:=by
 rw[List.all_eq_false];exact⟨k,List.mem_range.2 h,by simp[hp]⟩
theorem Sq(w:World)(s:ByteArray)(hK:BN w)(hs:s.size<=Bk):
  Calls Tryz.prog 89 #[.string s] w fun e w'=>e=.returned (.bool (CE s))/\w=w':=by
 have hsz:s.size<=140737488351232:=hs;clear hs;have k0:=hK 0 (by omega);have k1:=hK 1 (by omega);have k2:=hK 2 (by omega);have k3:=hK 3 (by omega);have k4:=hK 4 (by omega);have k5:=hK 5 (by omega);have k6:=hK 6 (by omega);have k7:=hK 7 (by omega);have k8:=hK 8 (by omega);have k9:=hK 9 (by omega)
 by_cases h1:(s.size:Int)<1
 ·go_enter Tryz.func89,Tryz.ntmps89
  go_wp2
  go_step3
  go_wp2
  (try rw[Exit.noGoto_ret])
  go_ret;exact⟨Ak (by simp[CE];omega),rfl⟩
 have h3:(1:Int)<=s.size:=by omega
 by_cases h2:(12:Int)<s.size
 ·clear h1
  go_enter Tryz.func89,Tryz.ntmps89
  go_wp2
  go_step3
  go_wp2
  (try rw[Exit.noGoto_ret])
  go_ret;exact⟨Ak (by simp[CE];omega),rfl⟩
 have h4:(s.size:Int)<=12:=by omega
 clear h1 h2
 go_enter Tryz.func89,Tryz.ntmps89
 go_wp2
 go_step3
 go_wp2
 go_step3
 go_upto_block 0 with(fail)
 go_cut [3] (fun v wx=>w=wx/\v=.bool (Ds s s.size))
 case first=>
  go_wp2
  go_loopg [3,18] s.size (fun gh ok i wr=>∃k:Nat,gh=s.size-k/\i=.int .i64 k/\ok=.bool true/\k<=s.size/\Hid (Ds s k=true)/\w=wr)
  case atStart=>exact⟨0,rfl,rfl,rfl,by omega,rfl,rfl⟩
  case round=>
   obtain⟨k,hgk,rfl,rfl,hk,HE,rfl⟩:=hrel;have HG:=Ab hgk;clear hgk
   by_cases hlt:k<s.size
   ·have A:Hid (s.data.toList.getD k 0=s[k]):=by show _=_;simp[List.getD,hlt];rfl
    by_cases hk0:0<k
    ·have hz:Hid (decide (k=0)=false):=by show _=_;simp;omega
     go_wp2
     all_goals
      first
      |(go_roundg (s.size-(k+1))
        case measure=>have:=HG.out;omega
        case rel=>exact⟨k+1,rfl,by go_num,rfl,by omega,by show _=_;rw[Ds,Cl,A.out,hz.out];(try simp only[beq_iff_eq]at*);(try simp only[beq_eq_false_iff_ne]at*);rw[show(List.range k).all _=true from HE.out,Eu (by omega)];rfl,rfl⟩)
      |(go_meet
        case rel=>exact⟨rfl,by rw[Ds,A6 _ _ k hlt (by rw[A.out,hz.out];(try simp only[beq_iff_eq]at*);(try simp only[beq_eq_false_iff_ne]at*);exact Do (by omega))]⟩)
    ·obtain rfl:k=0:=by omega
     go_wp2
     all_goals
      first
      |(go_roundg (s.size-(0+1))
        case measure=>have:=HG.out;omega
        case rel=>exact⟨0+1,rfl,by go_num,rfl,by omega,by show _=_;rw[Ds,Cl,A.out];rw[Hd (by omega)];rfl,rfl⟩)
      |(go_meet
        case rel=>exact⟨rfl,by rw[Ds,A6 _ _ 0 hlt (by rw[A.out];exact B7 (by omega))]⟩)
   ·obtain rfl:k=s.size:=by omega
    go_wp2
    go_meet
    case rel=>exact⟨rfl,by rw[HE.out]⟩
 case rest=>
  obtain⟨rfl,rfl⟩:=hcut;go_wp2;clear k0 k1 k2 k3 k4 k5 k6 k7 k8 k9 hK
  go_loopg [2,48] 10 (fun gh r i wr=>∃k:Nat,gh=10-k/\i=.int .i64 k/\r=.bool false/\k<=10/\Hid (∀j,j<k->Ir.getD j []≠s.toList)/\w=wr)
  case atStart=>exact⟨0,rfl,rfl,rfl,by omega,fun j hj=>absurd hj (by omega),rfl⟩
  case round=>
   obtain⟨k,hgk,rfl,rfl,hk,HE,rfl⟩:=hrel;have HG:=Ab hgk;clear hgk
   by_cases hlt:k<10
   ·have hi:=MC k hlt;have hkl:=E8 k hlt;have HKL:=Ab hkl;clear hkl;go_wp2
    ·have hq:((BQ k).toList==s.toList)=true:=by assumption
     (try rw[Exit.noGoto_ret])
     go_ret;refine⟨Ak (Eq.symm ?_),rfl⟩;rw[HKL.out]at hq
     have h5:ER s=true:=by
      rw[ER,List.contains_iff_mem,<-eq_of_beq hq,Af Ir [] k (by simpa[Ir]using hlt)];exact List.getElem_mem _
     rw[CE,h5];simp
    ·have hq:((BQ k).toList==s.toList)=false:=by assumption
     go_roundg (10-(k+1))
     case measure=>have:=HG.out;omega
     case rel=>
      refine⟨k+1,rfl,by go_num,rfl,by omega,fun j hj=> ?_,rfl⟩
      rcases Nat.lt_or_ge j k with h|h
      ·exact HE.out j h
      ·obtain rfl:j=k:=by omega
       rw[HKL.out]at hq;simpa using hq
   ·obtain rfl:k=10:=by omega
    go_wp2
    (try rw[Exit.noGoto_ret])
    go_ret;refine⟨Ak ?_,rfl⟩
    have h5:ER s=false:=by
     rw[ER,<-Bool.not_eq_true,List.contains_iff_mem];intro h;obtain⟨j,hj,e⟩:=List.getElem_of_mem h;refine HE.out j (by simpa[Ir]using hj) ?_;rw[Af _ _ _ hj,e]
    rw[CE,h5,decide_eq_true (show 1<=s.size by omega),decide_eq_true (show s.size<=12 by omega)];simp[Ds]
theorem RD{s:ByteArray}{k:Nat}(h:k<10)(e:(BQ k).toList=s.toList):ER s=true:=by
 rw[E8 k h]at e;rw[ER,List.contains_iff_mem,<-e,Af Ir [] k (by simpa[Ir]using h)];exact List.getElem_mem _
theorem P8{s:ByteArray}(h:∀j,j<10->(BQ j).toList≠s.toList):ER s=false:=by
 rw[ER,<-Bool.not_eq_true,List.contains_iff_mem];intro hm;obtain⟨j,hj,e⟩:=List.getElem_of_mem hm
 have hj':j<10:=by simpa[Ir]using hj
 refine h j hj' ?_;rw[E8 j hj',Af _ _ _ hj,e]
theorem TW(w:World)(b:Nat)(s:ByteArray)(hk:∀j,j<10->w.cell? ⟨b,j,none⟩=some (.string (BQ j))):
  Calls Tryz.prog 125 #[.slice (some ⟨b,0,none⟩) 10 10,.string s] w fun e w'=>e=.returned (.bool (ER s))/\w=w':=by
 have HK:=Ab hk;clear hk
 go_enter Tryz.func125,Tryz.ntmps125
 go_wp2
 go_loop [4,5] (fun r i=>∃k:Nat,i=.int .i64 k/\r=.bool false/\k<=10/\Hid (∀j,j<k->(BQ j).toList≠s.toList)) (fun _ i=>10-(intOf i).toNat)
 case atStart=>exact⟨0,rfl,rfl,by omega,fun j hj=>absurd hj (by omega)⟩
 case round=>
  obtain⟨k,rfl,rfl,hk,HE⟩:=hrel
  by_cases hlt:k<10
  ·have c:=HK.out k hlt;go_wp2
   ·have hq:((BQ k).toList==s.toList)=true:=by assumption
    go_ret;exact⟨Ak (RD hlt (eq_of_beq hq)).symm,rfl⟩
   ·have hq:((BQ k).toList==s.toList)=false:=by assumption
    go_round
    case rel=>
     refine⟨k+1,by go_num,rfl,by omega,fun j hj=> ?_⟩
     rcases Nat.lt_or_ge j k with h|h
     ·exact HE.out j h
     ·obtain rfl:j=k:=by omega
      simpa using hq
    case measure=>simp[intOf];omega
  ·obtain rfl:k=10:=by omega
   go_wp2;go_ret;exact⟨Ak (P8 HE.out).symm,rfl⟩
theorem Mb(w:World):Calls Tryz.prog 126 #[] w fun e w'=>e=.returned (.slice (some ⟨w.heap.size,0,none⟩) 10 10)/\w'=w.alloc (.cells #[.string (BQ 0),.string (BQ 1),.string (BQ 2),.string (BQ 3),.string (BQ 4),.string (BQ 5),.string (BQ 6),.string (BQ 7),.string (BQ 8),.string (BQ 9)] 9):=by
 go_enter Tryz.func126,Tryz.ntmps126
 go_wp2;go_ret;exact⟨rfl,rfl⟩
theorem P7(w:World):∀j,j<10->(w.alloc (.cells #[.string (BQ 0),.string (BQ 1),.string (BQ 2),.string (BQ 3),.string (BQ 4),.string (BQ 5),.string (BQ 6),.string (BQ 7),.string (BQ 8),.string (BQ 9)] 9)).cell? ⟨w.heap.size,j,none⟩=some (.string (BQ j)):=fun j h=>by
 rw[cell_of_row _ _ j _ _ _ (heap_alloc_new _ _)]
 match j,h with
 |0,_=>rfl
 |1,_=>rfl
 |2,_=>rfl
 |3,_=>rfl
 |4,_=>rfl
 |5,_=>rfl
 |6,_=>rfl
 |7,_=>rfl
 |8,_=>rfl
 |9,_=>rfl
theorem Nc(w:World)(s:ByteArray)(hs:s.size<=Bk):
  Calls Tryz.prog 102 #[.string s] w (Av (.bool (CE s)) w):=by
 have hsz:s.size<=140737488351232:=hs;clear hs
 by_cases h1:(s.size:Int)<1
 ·go_enter Tryz.func102,Tryz.ntmps102
  go_wp2;go_ret;exact⟨Ak (by simp[CE];omega),Ad⟩
 have h3:(1:Int)<=s.size:=by omega
 by_cases h2:(12:Int)<s.size
 ·clear h1
  go_enter Tryz.func102,Tryz.ntmps102
  go_wp2;go_ret;exact⟨Ak (by simp[CE];omega),Ad⟩
 have h4:(s.size:Int)<=12:=by omega
 clear h1 h2
 have hIn:Hid (∀W:World,(∀j,j<10->W.cell? ⟨w.heap.size,j,none⟩=some (.string (BQ j)))->Calls Tryz.prog 125 #[.slice (some ⟨w.heap.size,0,none⟩) 10 10,.string s] W fun e w'=>e=.returned (.bool (ER s))/\W=w'):=fun W h=>TW W _ s h
 cases hc:ER s
 all_goals
  go_enter Tryz.func102,Tryz.ntmps102
  go_wp2_with fail
  refine(Mb _).mono ?_;rintro e w1 ⟨rfl,hw1⟩;have hk1:=P7 w;rw[<-hw1]at hk1
  have HB:Hid (Below w.heap.size w w1):=by rw[hw1];exact Ao _
  have HK1:=Ab hk1;clear hk1 hw1
  go_wp2_with fail
  refine(hIn.out _ HK1.out).mono ?_;rintro e w1 ⟨rfl,rfl⟩;rw[hc];have HC:=Ab hc;clear hc;go_wp2
 ·go_loop [2,3] (fun r i=>∃k:Nat,i=.int .i64 k/\r=.bool false/\k<=s.size/\Hid (Ds s k=true)) (fun _ i=>s.size-(intOf i).toNat)
  case atStart=>exact⟨0,rfl,rfl,by omega,rfl⟩
  case round=>
   obtain⟨k,rfl,rfl,hk,HE⟩:=hrel
   by_cases hlt:k<s.size
   ·have A:Hid (s.data.toList.getD k 0=s[k]):=by show _=_;simp[List.getD,hlt];rfl
    by_cases hk0:0<k
    ·have hz:Hid (decide (k=0)=false):=by show _=_;simp;omega
     have hz1:((k:Int)==0)=false:=by rw[beq_eq_false_iff_ne];omega
     rcases(by omega:(s[k].toNat:Int)<48\/(48<=(s[k].toNat:Int)/\(s[k].toNat:Int)<=57)\/(57<(s[k].toNat:Int)/\(s[k].toNat:Int)<95)\/(95<=(s[k].toNat:Int)/\(s[k].toNat:Int)<=95)\/(95<(s[k].toNat:Int)/\(s[k].toNat:Int)<97)\/(97<=(s[k].toNat:Int)/\(s[k].toNat:Int)<=122)\/122<(s[k].toNat:Int))with hc|hc|hc|hc|hc|hc|hc
     ·have hq:((s[k].toNat:Int)==95)=false:=by first|(rw[beq_eq_false_iff_ne];omega)|(rw[beq_iff_eq];omega)
      have hd57:decide ((s[k].toNat:Int)<=57)=true:=decide_eq_true (by omega);have hd122:decide ((s[k].toNat:Int)<=122)=true:=decide_eq_true (by omega);go_wp2;go_ret;refine⟨Ak (Eq.symm ?_),HB.out⟩;rw[CE,A6 _ _ k hlt (by rw[A.out,hz.out];exact Do (by omega))];simp
     ·have hq:((s[k].toNat:Int)==95)=false:=by first|(rw[beq_eq_false_iff_ne];omega)|(rw[beq_iff_eq];omega)
      have hd57:decide ((s[k].toNat:Int)<=57)=true:=decide_eq_true (by omega);have hd122:decide ((s[k].toNat:Int)<=122)=true:=decide_eq_true (by omega);go_wp2
      go_round
      case rel=>exact⟨k+1,by go_num,rfl,by omega,by show _=_;rw[Ds,Cl,A.out,hz.out,Eu (by omega)];rw[show(List.range k).all _=true from HE.out];rfl⟩
      case measure=>simp[intOf];omega
     ·have hq:((s[k].toNat:Int)==95)=false:=by first|(rw[beq_eq_false_iff_ne];omega)|(rw[beq_iff_eq];omega)
      have hd57:decide ((s[k].toNat:Int)<=57)=false:=decide_eq_false (by omega);have hd122:decide ((s[k].toNat:Int)<=122)=true:=decide_eq_true (by omega);go_wp2;go_ret;refine⟨Ak (Eq.symm ?_),HB.out⟩;rw[CE,A6 _ _ k hlt (by rw[A.out,hz.out];exact Do (by omega))];simp
     ·have hq:((s[k].toNat:Int)==95)=true:=by first|(rw[beq_eq_false_iff_ne];omega)|(rw[beq_iff_eq];omega)
      have hd57:decide ((s[k].toNat:Int)<=57)=false:=decide_eq_false (by omega);have hd122:decide ((s[k].toNat:Int)<=122)=true:=decide_eq_true (by omega);go_wp2
      go_round
      case rel=>exact⟨k+1,by go_num,rfl,by omega,by show _=_;rw[Ds,Cl,A.out,hz.out,Eu (by omega)];rw[show(List.range k).all _=true from HE.out];rfl⟩
      case measure=>simp[intOf];omega
     ·have hq:((s[k].toNat:Int)==95)=false:=by first|(rw[beq_eq_false_iff_ne];omega)|(rw[beq_iff_eq];omega)
      have hd57:decide ((s[k].toNat:Int)<=57)=false:=decide_eq_false (by omega);have hd122:decide ((s[k].toNat:Int)<=122)=true:=decide_eq_true (by omega);go_wp2;go_ret;refine⟨Ak (Eq.symm ?_),HB.out⟩;rw[CE,A6 _ _ k hlt (by rw[A.out,hz.out];exact Do (by omega))];simp
     ·have hq:((s[k].toNat:Int)==95)=false:=by first|(rw[beq_eq_false_iff_ne];omega)|(rw[beq_iff_eq];omega)
      have hd57:decide ((s[k].toNat:Int)<=57)=false:=decide_eq_false (by omega);have hd122:decide ((s[k].toNat:Int)<=122)=true:=decide_eq_true (by omega);go_wp2
      go_round
      case rel=>exact⟨k+1,by go_num,rfl,by omega,by show _=_;rw[Ds,Cl,A.out,hz.out,Eu (by omega)];rw[show(List.range k).all _=true from HE.out];rfl⟩
      case measure=>simp[intOf];omega
     ·have hq:((s[k].toNat:Int)==95)=false:=by first|(rw[beq_eq_false_iff_ne];omega)|(rw[beq_iff_eq];omega)
      have hd57:decide ((s[k].toNat:Int)<=57)=false:=decide_eq_false (by omega);have hd122:decide ((s[k].toNat:Int)<=122)=false:=decide_eq_false (by omega);go_wp2;go_ret;refine⟨Ak (Eq.symm ?_),HB.out⟩;rw[CE,A6 _ _ k hlt (by rw[A.out,hz.out];exact Do (by omega))];simp
    ·obtain rfl:k=0:=by omega
     rcases(by omega:(s[0].toNat:Int)<48\/(48<=(s[0].toNat:Int)/\(s[0].toNat:Int)<=57)\/(57<(s[0].toNat:Int)/\(s[0].toNat:Int)<95)\/(95<=(s[0].toNat:Int)/\(s[0].toNat:Int)<=95)\/(95<(s[0].toNat:Int)/\(s[0].toNat:Int)<97)\/(97<=(s[0].toNat:Int)/\(s[0].toNat:Int)<=122)\/122<(s[0].toNat:Int))with hc|hc|hc|hc|hc|hc|hc
     ·have hq:((s[0].toNat:Int)==95)=false:=by first|(rw[beq_eq_false_iff_ne];omega)|(rw[beq_iff_eq];omega)
      have hd57:decide ((s[0].toNat:Int)<=57)=true:=decide_eq_true (by omega);have hd122:decide ((s[0].toNat:Int)<=122)=true:=decide_eq_true (by omega);go_wp2;go_ret;refine⟨Ak (Eq.symm ?_),HB.out⟩;rw[CE,A6 _ _ 0 hlt (by rw[A.out];exact B7 (by omega))];simp
     ·have hq:((s[0].toNat:Int)==95)=false:=by first|(rw[beq_eq_false_iff_ne];omega)|(rw[beq_iff_eq];omega)
      have hd57:decide ((s[0].toNat:Int)<=57)=true:=decide_eq_true (by omega);have hd122:decide ((s[0].toNat:Int)<=122)=true:=decide_eq_true (by omega);go_wp2;go_ret;refine⟨Ak (Eq.symm ?_),HB.out⟩;rw[CE,A6 _ _ 0 hlt (by rw[A.out];exact B7 (by omega))];simp
     ·have hq:((s[0].toNat:Int)==95)=false:=by first|(rw[beq_eq_false_iff_ne];omega)|(rw[beq_iff_eq];omega)
      have hd57:decide ((s[0].toNat:Int)<=57)=false:=decide_eq_false (by omega);have hd122:decide ((s[0].toNat:Int)<=122)=true:=decide_eq_true (by omega);go_wp2;go_ret;refine⟨Ak (Eq.symm ?_),HB.out⟩;rw[CE,A6 _ _ 0 hlt (by rw[A.out];exact B7 (by omega))];simp
     ·have hq:((s[0].toNat:Int)==95)=true:=by first|(rw[beq_eq_false_iff_ne];omega)|(rw[beq_iff_eq];omega)
      have hd57:decide ((s[0].toNat:Int)<=57)=false:=decide_eq_false (by omega);have hd122:decide ((s[0].toNat:Int)<=122)=true:=decide_eq_true (by omega);go_wp2;go_ret;refine⟨Ak (Eq.symm ?_),HB.out⟩;rw[CE,A6 _ _ 0 hlt (by rw[A.out];exact B7 (by omega))];simp
     ·have hq:((s[0].toNat:Int)==95)=false:=by first|(rw[beq_eq_false_iff_ne];omega)|(rw[beq_iff_eq];omega)
      have hd57:decide ((s[0].toNat:Int)<=57)=false:=decide_eq_false (by omega);have hd122:decide ((s[0].toNat:Int)<=122)=true:=decide_eq_true (by omega);go_wp2;go_ret;refine⟨Ak (Eq.symm ?_),HB.out⟩;rw[CE,A6 _ _ 0 hlt (by rw[A.out];exact B7 (by omega))];simp
     ·have hq:((s[0].toNat:Int)==95)=false:=by first|(rw[beq_eq_false_iff_ne];omega)|(rw[beq_iff_eq];omega)
      have hd57:decide ((s[0].toNat:Int)<=57)=false:=decide_eq_false (by omega);have hd122:decide ((s[0].toNat:Int)<=122)=true:=decide_eq_true (by omega);go_wp2
      go_round
      case rel=>exact⟨0+1,by go_num,rfl,by omega,by show _=_;rw[Ds,Cl,A.out,Hd (by omega)];rfl⟩
      case measure=>simp[intOf];omega
     ·have hq:((s[0].toNat:Int)==95)=false:=by first|(rw[beq_eq_false_iff_ne];omega)|(rw[beq_iff_eq];omega)
      have hd57:decide ((s[0].toNat:Int)<=57)=false:=decide_eq_false (by omega);have hd122:decide ((s[0].toNat:Int)<=122)=false:=decide_eq_false (by omega);go_wp2;go_ret;refine⟨Ak (Eq.symm ?_),HB.out⟩;rw[CE,A6 _ _ 0 hlt (by rw[A.out];exact B7 (by omega))];simp
   ·obtain rfl:k=s.size:=by omega
    go_wp2;go_ret;refine⟨Ak ?_,HB.out⟩;rw[CE,HC.out,decide_eq_true (show 1<=s.size by omega),decide_eq_true (show s.size<=12 by omega),show(List.range s.size).all _=true from HE.out];rfl
 ·go_ret;refine⟨Ak ?_,HB.out⟩;rw[CE,HC.out];simp
def As:List Sig->Int
 |[]=>1
 |s::r=>s.size*As r
theorem MQ(l:List Sig)(s:Sig):As (l++[s])=As l*s.size:=by
 induction l with
 |nil=>simp[As]
 |cons a l ih=>simp only[List.cons_append,As,ih,Int.mul_assoc]
theorem Cq{l:List Sig}{k:Nat}(h:k<l.length):As (l.take (k+1))=As (l.take k)*l[k].size:=by
 rw[List.take_succ_eq_append_getElem h,MQ]
def AS(s:Sig):Bool:=decide (2<=s.size)&&decide (s.size<=4)
def Iy(l:List Sig)(i:Nat):Bool:=(List.range i).all fun k=> !((l.getD k EL).name.toList==(l.getD i EL).name.toList)
def Fd(l:List Sig)(i:Nat):Bool:=CE (l.getD i EL).name&&AS (l.getD i EL)&&Iy l i
def EX(l:List Sig)(k:Nat):Bool:=(List.range k).all (Fd l)
def At(l:List Sig):Bool:=decide (1<=l.length)&&decide (l.length<=6)&&EX l l.length&&decide (As l<=64)
theorem LD{k:Nat}(h:k<=6):(4:Int)^k<=4096:=by
 match k,h with
 |0,_=>decide
 |1,_=>decide
 |2,_=>decide
 |3,_=>decide
 |4,_=>decide
 |5,_=>decide
 |6,_=>decide
theorem GC(l:List Sig)(h:∀s∈l,AS s=true):1<=As l/\As l<=4^l.length:=by
 induction l with
 |nil=>simp[As]
 |cons a l ih=>
  obtain⟨h1,h2⟩:=ih (fun s hs=>h s (List.mem_cons_of_mem _ hs));have ha:=h a List.mem_cons_self;simp only[AS,Bool.and_eq_true,decide_eq_true_eq]at ha;rw[As,List.length_cons,Int.pow_succ];refine⟨?_, ?_⟩
  ·have:=Int.mul_le_mul (show(1:Int)<=a.size by omega) h1 (by omega) (by omega);omega
  ·rw[Int.mul_comm (4^l.length) 4];exact Int.mul_le_mul ha.2 h2 (by omega) (by omega)
theorem EY{l:List Sig}{k:Nat}(h:EX l k=true)(hk:k<=l.length):∀s∈l.take k,AS s=true:=fun s hs=>by
 obtain⟨j,hj,rfl⟩:=List.getElem_of_mem hs;rw[List.length_take]at hj;have:=List.all_eq_true.1 h j (List.mem_range.2 (by omega));simp only[Fd,Bool.and_eq_true]at this;rw[List.getElem_take];have e:=this.1.2
 rwa [Af _ _ _ (by omega)]at e
theorem G1{l:List Sig}{k:Nat}(h:EX l k=true)(hk:k<l.length)(h6:l.length<=6)(hs:AS l[k]=true):
  (1<=As (l.take k)/\As (l.take k)<=4096)/\IntKind.i64.wrap (As (l.take k)*l[k].size)=As (l.take (k+1)):=by
 have h1:=GC _ (EY h (by omega))
 have h2:As (l.take k)<=4096:=by
  exact Int.le_trans h1.2 (LD (by rw[List.length_take];omega))
 refine⟨⟨h1.1,h2⟩, ?_⟩;rw[Cq hk];simp only[AS,Bool.and_eq_true,decide_eq_true_eq]at hs;refine IntWalk.i64_in _ ⟨?_, ?_⟩
 ·have:=Int.mul_nonneg (show 0<=As (l.take k)by omega) (show 0<=l[k].size by omega);omega
 ·have:=Int.mul_le_mul h2 hs.2 (by omega) (by omega);omega
theorem Jd(l:List Sig)(k:Nat):EX l (k+1)=(EX l k&&Fd l k):=Cl _ _
theorem DN{l:List Sig}{n k:Nat}(h:k<n)(hs:Fd l k=false):EX l n=false:=A6 _ _ _ h hs
theorem Cv(w:World)(vl:Value)(l:List Sig)(hK:BN w)(hl:AH w vl l):
  Calls Tryz.prog 41 #[vl] w (DL (.bool (At l)) w):=by
 obtain⟨ao,cap,b,off,rfl,hl⟩:=hl;have hn:=hl.nb
 by_cases h1:(l.length:Int)<1
 ·go_enter Tryz.func41,Tryz.ntmps41
  go_wp2
  go_step3
  go_wp2
  (try rw[Exit.noGoto_ret])
  go_ret;exact⟨Ak (by simp[At];omega),0,rfl⟩
 have h3:(1:Int)<=l.length:=by omega
 by_cases h2:(6:Int)<l.length
 ·clear h1
  go_enter Tryz.func41,Tryz.ntmps41
  go_wp2
  go_step3
  go_wp2
  (try rw[Exit.noGoto_ret])
  go_ret;exact⟨Ak (by simp[At];omega),0,rfl⟩
 have h4:(l.length:Int)<=6:=by omega
 have hN:Hid (∀(W:World)(s:ByteArray),Below w.heap.size w W->s.size<=Bk->Calls Tryz.prog 89 #[.string s] W fun e w'=>e=.returned (.bool (CE s))/\W=w'):=fun W s hW h=>Sq W s (hK.below hW) h
 have HSN:Hid (∀j(h:j<l.length),l[j].name.size<=Bk):=fun j h=>hl.sn _ (List.getElem_mem h)
 clear h1 h2 hK
 go_enter Tryz.func41,Tryz.ntmps41
 go_wp2
 go_step3
 go_wp2
 go_step3
 go_upto_block 0 with(fail)
 go_cut [3,4] (fun ok pr wx=>(∃n,wx=w.drewN n)/\ok=.bool (EX l l.length)/\∃p,pr=.int .i64 p/\Hid (EX l l.length=true->p=As l))
 case first=>
  go_wp2
  go_loopg [3,4,17] l.length (fun gh ok pr i wr=>∃k n:Nat,gh=l.length-k/\i=.int .i64 k/\ok=.bool true/\pr=.int .i64 (As (l.take k))/\k<=l.length/\Hid (EX l k=true)/\wr=w.drewN n)
  case atStart=>exact⟨0,0,rfl,rfl,rfl,rfl,by omega,rfl,rfl⟩
  case round=>
   obtain⟨k,n,hgk,rfl,rfl,rfl,hk,HE,rfl⟩:=hrel;have HG:=Ab hgk;clear hgk
   by_cases hlt:k<l.length
   ·obtain rfl:=hl.ad (by omega);have c0:=hl.nn k hlt;have c2:=hl.nz k hlt;have hz:=hl.sz _ (List.getElem_mem hlt);have A:Hid (l.getD k EL=l[k]):=Af _ _ _ hlt;unfold I64 at hz
    cases hq:CE l[k].name
    ·go_wp2_with fail
     refine(hN.out _ _ (Am _ _ _) (HSN.out k hlt)).mono ?_;rintro e w' ⟨rfl,rfl⟩;rw[hq];go_wp2
     go_meet
     case rel=>exact⟨⟨n,rfl⟩,by rw[DN hlt (by rw[Fd,A.out,hq];rfl)],_,rfl,fun h=>by rw[DN hlt (by rw[Fd,A.out,hq];rfl)]at h;cases h⟩
    ·by_cases hs:2<=l[k].size/\l[k].size<=4
     case neg=>
      have HF:Hid (EX l l.length=false):=DN hlt (by
       have:AS l[k]=false:=by rw[<-Bool.not_eq_true];simp only[AS,Bool.and_eq_true,decide_eq_true_eq];exact hs
       rw[Fd,A.out,this];simp)
      rcases(by omega:l[k].size<2\/(2<=l[k].size/\4<l[k].size))with hs2|hs2
      all_goals
       clear hs
       go_wp2_with fail
       refine(hN.out _ _ (Am _ _ _) (HSN.out k hlt)).mono ?_;rintro e w' ⟨rfl,rfl⟩;rw[hq];go_wp2
       go_meet
       case rel=>exact⟨⟨n,rfl⟩,by rw[HF.out],_,rfl,fun h=>by rw[HF.out]at h;cases h⟩
     have hsB:AS l[k]=true:=by simp only[AS,Bool.and_eq_true,decide_eq_true_eq];exact hs
     obtain⟨⟨hp1,hp2⟩,hpw⟩:=G1 HE.out hlt (by omega) hsB;have HPW:=Ab hpw;have HSB:=Ab hsB;have HQ:=Ab hq;obtain⟨hs1,hs2⟩:=hs;have hI:Hid (AH w (.slice (some ⟨b,off,none⟩) l.length cap) l):=⟨_,_,b,off,rfl,hl⟩;clear hpw hsB;generalize As (l.take k)=pr at*
     go_wp2_with fail
     refine(hN.out _ _ (Am _ _ _) (HSN.out k hlt)).mono ?_;rintro e w' ⟨rfl,rfl⟩;rw[hq];clear hq;go_wp2
     go_loopg [3,44] k (fun gh ok i wx=>∃j m:Nat,gh=k-j/\i=.int .i64 j/\ok=.bool true/\j<=k/\Hid ((List.range j).all (fun i=> !((l.getD i EL).name.toList==(l.getD k EL).name.toList))=true)/\wx=w.drewN m)
     case atStart=>exact⟨0,n,rfl,rfl,rfl,by omega,rfl,rfl⟩
     case round=>
      obtain⟨j,m,hgj,rfl,rfl,hj,HJ,rfl⟩:=hrel;have HGJ:=Ab hgj;clear hgj
      by_cases hltj:j<k
      ·have hjl:j<l.length:=by omega
       have c3:=hl.nn j hjl;have A2:Hid (l.getD j EL=l[j]):=Af _ _ _ hjl;go_wp2
       go_quiet (fail)
       go_wp2
       ·have he:(l[j].name.toList==l[k].name.toList)=true:=by assumption
        have HF:Hid (EX l l.length=false):=DN hlt (by rw[Fd,Iy,A6 _ _ j hltj (by rw[A.out,A2.out,he];rfl)];simp)
        go_meet
        case rel=>exact⟨⟨_,World.drewN_drewN ..⟩,by rw[HF.out],_,rfl,fun h=>by rw[HF.out]at h;cases h⟩
       ·have he:(l[j].name.toList==l[k].name.toList)=false:=by assumption
        go_roundg (k-(j+1))
        case measure=>have:=HGJ.out;omega
        case rel=>exact⟨j+1,_,rfl,by go_num,rfl,by omega,by show _=_;rw[Cl,HJ.out,A.out,A2.out,he];rfl,rfl⟩
      ·obtain rfl:j=k:=by omega
       have hpw:=HPW.out;go_wp2
       go_roundg (l.length-(j+1))
       case measure=>have:=HG.out;omega
       case rel=>exact⟨j+1,m,rfl,by go_num,rfl,by first|rw[HPW.out]|rfl,by omega,by show _=_;rw[Jd,HE.out,Fd,A.out,HQ.out,HSB.out,Iy,HJ.out];rfl,rfl⟩
   ·obtain rfl:k=l.length:=by omega
    go_wp2
    go_meet
    case rel=>exact⟨⟨n,rfl⟩,by rw[HE.out],_,rfl,fun _=>by rw[List.take_length]⟩
 case rest=>
  obtain⟨⟨n,rfl⟩,rfl,p,rfl,HP⟩:=hcut
  have HV:Hid (At l=(EX l l.length&&decide (As l<=64))):=by
   show _=_;rw[At,decide_eq_true (show 1<=l.length by omega),decide_eq_true (show l.length<=6 by omega)];rfl
  cases hA:EX l l.length
  ·go_wp2
   (try rw[Exit.noGoto_ret])
   go_ret;exact⟨Ak (by rw[HV.out,hA];rfl),n,rfl⟩
  ·have HP2:=Ab (HP.out hA);go_wp2
   (try rw[Exit.noGoto_ret])
   go_ret;exact⟨Ak (by rw[HV.out,hA,HP2.out];rfl),n,rfl⟩
theorem K4{l:List Sig}{s:ByteArray}:∀(i k:Nat)(h:i<l.length),l[i].name.toList=s.toList->(∀j(hj:j<i),l[j].name.toList≠s.toList)->FF s l k=((k+i:Nat):Int):=by
 induction l with
 |nil=>intro i k h;simp at h
 |cons x r ih=>
  intro i k h he hn;unfold FF
  cases i with
  |zero=>rw[if_pos (by simpa using he)];simp
  |succ i=>
   rw[if_neg (by simpa using hn 0 (by omega)),ih i (k+1) (by simpa using h) (by simpa using he) (fun j hj=>by simpa using hn (j+1) (by omega))]
   congr 1;omega
theorem Mu{l:List Sig}{s:ByteArray}:∀(k:Nat),FF s l k≠-1->∃i,∃h:i<l.length,l[i].name.toList=s.toList/\(∀j(hj:j<i),l[j].name.toList≠s.toList)/\FF s l k=((k+i:Nat):Int):=by
 induction l with
 |nil=>intro k h;exact absurd rfl h
 |cons x r ih=>
  intro k h;unfold FF at h⊢
  by_cases hx:x.name.toList=s.toList
  ·rw[if_pos hx];exact⟨0,by simp,by simpa using hx,fun j hj=>absurd hj (by omega),by simp⟩
  ·rw[if_neg hx]at h⊢;obtain⟨i,hi,h1,h2,h3⟩:=ih (k+1) h;refine⟨i+1,by simp;exact hi,by simpa using h1,fun j hj=> ?_,by rw[h3];congr 1;omega⟩
   cases j with
   |zero=>simpa using hx
   |succ j=>simpa using h2 j (by omega)
theorem K5{l:List Sig}{i:Nat}(h:i<l.length):(E5 l l[i].name=(i:Int))↔Iy l i=true:=by
 have e:Iy l i=true↔∀j,∀hj:j<i,(l[j]'(by omega)).name.toList≠l[i].name.toList:=by
  simp only[Iy,List.all_eq_true,List.mem_range,Bool.not_eq_true',beq_eq_false_iff_ne]
  constructor
  ·intro k j hj;have:=k j hj
   rwa [Af _ _ _ (show j<l.length by omega),Af _ _ _ h]at this
  ·intro k j hj;rw[Af _ _ _ (show j<l.length by omega),Af _ _ _ h];exact k j hj
 rw[e]
 constructor
 ·intro hf j hj;obtain⟨i',hi',h1,h2,h3⟩:=Mu (l:=l) (s:=l[i].name) 0 (by unfold E5 at hf;omega);unfold E5 at hf
  obtain rfl:i'=i:=by omega
  exact h2 j hj
 ·intro hn;have:=K4 (l:=l) (s:=l[i].name) i 0 h rfl hn;unfold E5;rw[this];simp
theorem Fj(w:World)(vl:Value)(l:List Sig)(hl:AH w vl l):
  Calls Tryz.prog 63 #[vl] w (Av (.bool (At l)) w):=by
 have hlx:=hl;obtain⟨ao,cap,b,off,rfl,hl⟩:=hl;have hn:=hl.nb
 by_cases h1:(l.length:Int)<1
 ·go_enter Tryz.func63,Tryz.ntmps63
  go_wp2;go_ret;exact⟨Ak (by simp[At];omega),Ad⟩
 have h3:(1:Int)<=l.length:=by omega
 by_cases h2:(6:Int)<l.length
 ·clear h1
  go_enter Tryz.func63,Tryz.ntmps63
  go_wp2;go_ret;exact⟨Ak (by simp[At];omega),Ad⟩
 have h4:(l.length:Int)<=6:=by omega
 have HSN:Hid (∀j(h:j<l.length),l[j].name.size<=Bk):=fun j h=>hl.sn _ (List.getElem_mem h)
 have HV:Hid (At l=(EX l l.length&&decide (As l<=64))):=by
  show _=_;rw[At,decide_eq_true (show 1<=l.length by omega),decide_eq_true (show l.length<=6 by omega)];rfl
 clear h1 h2
 go_enter Tryz.func63,Tryz.ntmps63
 go_wp2
 go_loopg [2,3,4] l.length (fun gh r pr i wr=>∃k:Nat,gh=l.length-k/\i=.int .i64 k/\r=.bool false/\pr=.int .i64 (As (l.take k))/\k<=l.length/\Hid (EX l k=true)/\Below w.heap.size w wr)
 case atStart=>exact⟨0,rfl,rfl,rfl,rfl,by omega,rfl,Ad⟩
 case round=>
  obtain⟨k,hgk,rfl,rfl,rfl,hk,HE,hB⟩:=hrel;have HG:=Ab hgk;clear hgk
  by_cases hlt:k<l.length
  ·obtain rfl:=hl.ad (by omega);have c0:=Ah hB (hl.nn k hlt);have c2:=Ah hB (hl.nz k hlt);have hz:=hl.sz _ (List.getElem_mem hlt);have A:Hid (l.getD k EL=l[k]):=Af _ _ _ hlt;unfold I64 at hz;have HB:=Ab hB;clear hB
   have HFN:Hid (∀c,Fd l k=c->c=false->false=At l):=fun c h1 h2=>by rw[HV.out,DN hlt (h1.trans h2)];rfl
   cases hq:CE l[k].name
   ·go_wp2_with fail
    refine(Nc _ _ (HSN.out k hlt)).mono ?_;rintro e w2 ⟨rfl,hb2⟩;rw[hq];go_wp2;go_ret;exact⟨Ak (HFN.out _ (by rw[Fd,A.out,hq];rfl) rfl),HB.out.trans (hb2.mono HB.out.size)⟩
   ·have HQ:=Ab hq;clear hq
    go_wp2_with fail
    refine(Nc _ _ (HSN.out k hlt)).mono ?_;rintro e w2 ⟨rfl,hb2⟩;rw[HQ.out];have hB2:=HB.out.trans (hb2.mono HB.out.size);have d0:=Ah hb2 c0;have d2:=Ah hb2 c2;clear c0 c2 hb2
    go_wp2_with fail
    refine(Q7 _ _ l l[k].name (hlx.below hB2)).mono ?_;rintro e w2 ⟨rfl,rfl⟩
    cases hnw:Iy l k
    ·have hne:(E5 l l[k].name !=(k:Int))=true:=by
      rw[bne_iff_ne];intro h;rw[(K5 hlt).1 h]at hnw;cases hnw
     have HF:=Ab<|HFN.out _ (show Fd l k=false by rw[Fd,A.out,HQ.out,hnw];simp) rfl;generalize E5 l l[k].name=fi at*;clear hnw;go_wp2;go_ret;exact⟨Ak HF.out,hB2⟩
    ·have hne:(E5 l l[k].name !=(k:Int))=false:=by
      rw[(K5 hlt).2 hnw];simp
     generalize E5 l l[k].name=fi at*;have HNW:=Ab hnw;clear hnw
     by_cases hs:2<=l[k].size/\l[k].size<=4
     case neg=>
      have HF:=Ab<|HFN.out _ (show Fd l k=false by
       have:AS l[k]=false:=by rw[<-Bool.not_eq_true];simp only[AS,Bool.and_eq_true,decide_eq_true_eq];exact hs
       rw[Fd,A.out,this];simp) rfl
      rcases(by omega:l[k].size<2\/(2<=l[k].size/\4<l[k].size))with hs2|hs2
      all_goals
       clear hs;go_wp2;go_ret;exact⟨Ak HF.out,hB2⟩
     have hsB:AS l[k]=true:=by simp only[AS,Bool.and_eq_true,decide_eq_true_eq];exact hs
     obtain⟨⟨hp1,hp2⟩,hpw⟩:=G1 HE.out hlt (by omega) hsB;have HPW:=Ab hpw;have HSB:=Ab hsB;obtain⟨hs1,hs2⟩:=hs;clear hpw hsB;generalize As (l.take k)=pr at*;have hpw:=HPW.out;go_wp2
     go_roundg (l.length-(k+1))
     case measure=>have:=HG.out;omega
     case rel=>exact⟨k+1,rfl,by go_num,rfl,by first|rw[HPW.out]|rfl,by omega,by show _=_;rw[Jd,HE.out,Fd,A.out,HQ.out,HSB.out,HNW.out];rfl,hB2⟩
  ·obtain rfl:k=l.length:=by omega
   rw[List.take_length];go_wp2;go_ret;exact⟨Ak (by rw[HV.out,HE.out];rfl),hB⟩
attribute [local go_sem] Oper.semAt_some
def KpW(n₀ Bs:Nat)(W W':World):Prop:=Below n₀ W W'/\W'.heap[Bs]? =W.heap[Bs]?
theorem KpW.trans{n₀ Bs:Nat}{A B C:World}(h:KpW n₀ Bs A B)(k:KpW n₀ Bs B C):KpW n₀ Bs A C:=⟨h.1.trans k.1,k.2.trans h.2⟩
theorem KpW.refl(n₀ Bs:Nat)(A:World):KpW n₀ Bs A A:=⟨Ad,rfl⟩
theorem KpW.put{n₀ Bs:Nat}{w:World}(hn:n₀<=w.heap.size)(hB:Bs<w.heap.size)(W:World)(l:Nat)(o o':Obj)(hl:w.heap.size<=l)(h:W.heap[l]? =some o)(h1:o.isCells=false)(h2:o.isWalk=false):KpW n₀ Bs W (W.putObj l o'):=
 ⟨belowK_b hn W l o o' hl h h1 h2,(grownBy_putObj' W l o').block Bs (by have:=(ltE h);omega) (by simp;omega)⟩
theorem Pw{n₀:Nat}{w wr:World}{a:Addr}{v:Value}(hb:Below n₀ w wr)(ha:a.block<n₀)(h:w.cell? a=some v):wr.cell? a=some v:=(hb.cell ha).trans h
theorem Hm.belowN{n₀:Nat}{w wr:World}{ao:Option Addr}{cap b off:Nat}{l:List Sig}(h:Hm w ao cap b off l)(hb:Below n₀ w wr)(hn:0<l.length->b<n₀):Hm wr ao cap b off l:=
 {h with
  nn:=fun j hj=>Pw hb (hn (by omega)) (h.nn j hj)
  ni:=fun j hj=>Pw hb (hn (by omega)) (h.ni j hj)
  nz:=fun j hj=>Pw hb (hn (by omega)) (h.nz j hj)}
def CK(n:Nat):List (Fin n):=List.finRange n
theorem Cb(n:Nat):(CK n).length=n:=by simp[CK]
theorem Cy{n k:Nat}(h:k<n):(CK n).take (k+1)=(CK n).take k++[⟨k,h⟩]:=by
 rw[List.take_succ_eq_append_getElem (by rw[Cb];exact h)]
 congr 2
 simp[CK]
def IT(l:List Sig)(x:Fin l.length):Array Value:=#[.int .i64 ((x:Nat):Int),.int .i64 (As (l.take x))]
theorem L1(F:Fence)(n:Nat)(h7:F.fn 108)(hro:F.round=none)(hn:1<=n)(lY Bs n₀ b off cap:Nat)(ao:Option Addr)(l:List Sig)(hv:At l=true)(hb:b<n₀)(J Jx:List (Fin l.length)->World->Prop)
  (hY:∀pre x W,J pre W->pre.length<l.length->YieldAt F (n-1) Tryz.prog lY (IT l x) W fun e W'=>
   (e=.returned (.bool true)/\J (pre++[x]) W'/\KpW n₀ Bs W W')\/(e=.returned (.bool false)/\Jx (pre++[x]) W'))
  (W:World) (hBs:W.cell? ⟨Bs,0,none⟩=some (.slice ao l.length cap)) (hl:Hm W ao cap b off l) (h0:J [] W):
  CallsIn F n Tryz.prog 108 #[.func (.yield lY) #[] #[],.pointer (some ⟨Bs,0,none⟩)] W fun e W'=>(∃v,e=.returned v)/\
   ((∃ys,ys=CK l.length/\J ys W')\/(∃pre,(∃k,k<=l.length/\pre=(CK l.length).take k)/\Jx pre W')):=by
 have hnb:=hl.nb;have hvx:=hv;simp only[At,Bool.and_eq_true,decide_eq_true_eq]at hvx;obtain⟨⟨⟨hl1,hl6⟩,hA⟩,hP⟩:=hvx;have HA:=Ab hA
 have h6i:(l.length:Int)<=6:=by omega
 clear hA hP hv;refine callsIn_of_wp Tryz.func108 rfl h7 ?_ hro;simp only[Tryz.ntmps108,List.size_toArray,List.length_cons,List.length_nil,Nat.reduceAdd,Nat.reduceSub,Array.replicate_succ,Array.replicate_zero,List.push_toArray,List.append_toArray,List.nil_append,List.cons_append]
 gi_wp2
 gi_loopw [3,7] (fun wt i wr=>∃k:Nat,k<=l.length/\i=.int .i64 k/\wt=.int .i64 (As (l.take k))/\J ((CK l.length).take k) wr/\KpW n₀ Bs W wr)
  (fun _ i _=>l.length-(intOf i).toNat)
 case atStart=>exact⟨0,Nat.zero_le _,rfl,rfl,h0,KpW.refl _ _ _⟩
 case round=>
  obtain⟨k,hk,rfl,rfl,hJs,hnx⟩:=hrel
  by_cases hlt:k<l.length
  ·obtain⟨fn,tmps,assign,body,hy,hR⟩:=hY _ ⟨k,hlt⟩ wr hJs (by rw[List.length_take,Cb];omega);dsimp only[IT]at hy
   have hAk:EX l k=true:=by
    rw[EX,List.all_eq_true];intro j hj;exact List.all_eq_true.1 HA.out j (List.mem_range.2 (by have:=List.mem_range.1 hj;omega))
   have hsB:AS l[k]=true:=by
    have:=List.all_eq_true.1 HA.out k (List.mem_range.2 hlt);simp only[Fd,Bool.and_eq_true]at this;have e:=this.1.2
    rwa [Af _ _ _ hlt]at e
   obtain⟨⟨hp1,hp2⟩,hpw⟩:=G1 hAk hlt hl6 hsB;simp only[AS,Bool.and_eq_true,decide_eq_true_eq]at hsB;obtain⟨hs1,hs2⟩:=hsB;have HPW:=Ab hpw;clear hpw hAk;generalize As (l.take k)=pr at*;obtain rfl:=hl.ad (by omega)
   gi_wp2
   refine hR.mono ?_;rintro e W3 (⟨rfl,hJ3,hk3⟩|⟨rfl,hJx3⟩)
   ·have hk4:=hnx.trans hk3;have hB3:W3.cell? ⟨Bs,0,none⟩=some (.slice (some ⟨b,off,none⟩) l.length cap):=(World.cell?_of_block (a:=⟨Bs,0,none⟩) hk4.2).trans hBs;have c2:=(hl.belowN hk4.1 (fun _=>hb)).nz k hlt;have hpw:=HPW.out
    gi_wp2
    go_roundw
    case rel=>exact⟨k+1,by omega,by go_num,by first|rw[HPW.out]|rfl,by rw[Cy hlt];exact hJ3,hk4⟩
    case measure=>simp[intOf];omega
   ·gi_wp2
    refine bodyPost_ret (results_none rfl _ _ _) rfl ?_;exact⟨⟨_,rfl⟩,.inr ⟨_,⟨k+1,by omega,(Cy hlt).symm⟩,hJx3⟩⟩
  ·obtain rfl:k=l.length:=by omega
   gi_wp2
   go_end0
   exact⟨⟨_,rfl⟩,.inl ⟨_,rfl,by rw[List.take_of_length_le (by rw[Cb];exact Nat.le_refl _)]at hJs;exact hJs⟩⟩
theorem Di(w:World)(ao:Option Addr)(n cap:Nat):
  Calls Tryz.prog 68 #[.slice ao n cap] w fun e w'=>e=.returned (.func (.func 108) #[] #[.pointer (some ⟨w.heap.size,0,none⟩)])/\w'=w.alloc (.cells #[.slice ao n cap] 22):=by
 go_enter Tryz.func68,Tryz.ntmps68
 go_wp2;go_ret;exact⟨rfl,rfl⟩
theorem Ca(F:Fence)(n:Nat)(h7:F.fn 108)(hro:F.round=none)(hn:1<=n)(Bs n₀ b off cap:Nat)(ao:Option Addr)(l:List Sig)(hv:At l=true)(hb:b<n₀)(w:World)(hBl:Bs<w.heap.size)(_:n₀<=w.heap.size)
  (hBs:w.cell? ⟨Bs,0,none⟩=some (.slice ao l.length cap)) (hl:Hm w ao cap b off l):
  SeqStopsK F n Tryz.prog 108 #[.pointer (some ⟨Bs,0,none⟩)] (IT l) (KpW n₀ Bs) (fun ys=>ys=CK l.length) (fun pre=>∃k,k<=l.length/\pre=(CK l.length).take k) l.length w:=fun lY J Jx W hW _ _ hY h0=>
 L1 F n h7 hro hn lY Bs n₀ b off cap ao l hv hb J Jx hY W ((hW.cell (p:=⟨Bs,0,none⟩) hBl).trans hBs) (hl.below hW) h0
def OK(s:Sig):Value:=.agg #[.string s.name,.bool s.inp,.int .i64 s.size]
theorem Tz(W:World)(s:Sig):Calls Tryz.prog 107 #[OK s] W (Av (.bool true) W):=by
 unfold OK
 go_enter Tryz.func107,Tryz.ntmps107
 go_wp2;go_ret;exact⟨rfl,(by repeat(first|exact Ad|assumption|apply AD|apply AE))⟩
theorem TA(W:World)(s:Sig):Calls Tryz.prog 113 #[OK s] W (Av (.bool s.inp) W):=by
 unfold OK
 go_enter Tryz.func113,Tryz.ntmps113
 go_wp2;go_ret;exact⟨rfl,(by repeat(first|exact Ad|assumption|apply AD|apply AE))⟩
theorem TB(W:World)(s:Sig):Calls Tryz.prog 114 #[OK s] W (Av (.bool (!s.inp)) W):=by
 unfold OK
 go_enter Tryz.func114,Tryz.ntmps114
 go_wp2;go_ret;exact⟨rfl,(by repeat(first|exact Ad|assumption|apply AD|apply AE))⟩
def A9(ch:Sig->Bool):List Sig->Int
 |[]=>1
 |s::r=>if ch s then s.size*A9 ch r else A9 ch r
def Bw(ch:Sig->Bool)(l:List Sig)(pre:List (Fin l.length)):Int:=pre.foldl (fun p x=>if ch l[x]then p*l[x].size else p) 1
theorem CW(ch:Sig->Bool)(l:List Sig)(pre:List (Fin l.length))(x:Fin l.length):Bw ch l (pre++[x])=if ch l[x]then Bw ch l pre*l[x].size else Bw ch l pre:=by simp[Bw]
theorem IE{ch:Sig->Bool}{l:List Sig}(h:∀s∈l,AS s=true)(pre:List (Fin l.length)):1<=Bw ch l pre/\Bw ch l pre<=4^pre.length:=by
 have key:∀(n:Nat)(pre:List (Fin l.length)),pre.length=n->1<=Bw ch l pre/\Bw ch l pre<=4^pre.length:=by
  intro n
  induction n with
  |zero=>intro pre hp;rw[List.eq_nil_of_length_eq_zero hp];simp[Bw]
  |succ n ih=>
   intro pre hp
   have hne:pre≠[]:=by intro e;rw[e]at hp;simp at hp
   rw[<-List.dropLast_concat_getLast hne];obtain⟨h1,h2⟩:=ih pre.dropLast (by simp[hp]);have hs:=h l[pre.getLast hne] (List.getElem_mem _);simp only[AS,Bool.and_eq_true,decide_eq_true_eq]at hs;rw[CW,List.length_append,List.length_singleton,Int.pow_succ]
   split
   ·refine⟨?_,Int.mul_le_mul h2 hs.2 (by omega) (by omega)⟩;have:=Int.mul_le_mul h1 (show(1:Int)<=l[pre.getLast hne].size by omega) (by omega) (by omega);omega
   ·omega
 exact key _ pre rfl
theorem MP(ch:Sig->Bool)(l:List Sig)(k:Nat)(hk:k<=l.length):Bw ch l ((CK l.length).take k)*A9 ch (l.drop k)=A9 ch l:=by
 induction k with
 |zero=>simp[Bw]
 |succ k ih=>
  have h:=ih (by omega);rw[DE l k (by omega)]at h;rw[Cy (by omega),CW,<-h];simp only[A9,Fin.getElem_fin]
  split
  ·rw[Int.mul_assoc]
  ·rfl
theorem G0(ch:Sig->Bool)(l:List Sig):Bw ch l (CK l.length)=A9 ch l:=by
 have:=MP ch l l.length leR;rw[List.take_of_length_le (by rw[Cb];exact Nat.le_refl _),List.drop_length,A9,Int.mul_one]at this;exact this
attribute [local go_sem] Oper.semAt_some
theorem G2{p z:Int}(h1:1<=p)(h2:p<=4096)(h3:2<=z)(h4:z<=4):IntKind.i64.wrap (p*z)=p*z:=by
 refine IntWalk.i64_in _ ⟨?_, ?_⟩
 ·have:=Int.mul_nonneg (show 0<=p by omega) (show 0<=z by omega);omega
 ·have:=Int.mul_le_mul h2 h4 (by omega) (by omega);omega
theorem Fz(w:World)(v:Value)(t:TypeId):(w.alloc (.cells #[v] t)).cell? ⟨w.heap.size,0,none⟩=some v:=cell_of_row _ _ 0 #[v] t (0,0) (heap_alloc_new _ _)
theorem SW(w:World)(v:Value)(t:TypeId):(w.alloc (.cells #[v] t)).frozen? ⟨w.heap.size,0,none⟩=false:=Ay 0 (heap_alloc_new _ _)
theorem DR{B:Nat}{W W':World}(h:Below W.heap.size W W'):KeepsFrom B W W':=⟨h.size,fun i _ _ hi _=>(h.block i (ltE hi)).trans hi⟩
def C3(w:World)(vs vf:Value)(p:Int)(W:World):Prop:=
 W.cell? ⟨w.heap.size+2,0,none⟩=some (.int .i64 p)/\W.frozen? ⟨w.heap.size+2,0,none⟩=false/\W.cell? ⟨w.heap.size,0,none⟩=some vs/\W.cell? ⟨w.heap.size+1,0,none⟩=some vf/\W.cell? ⟨w.heap.size+3,0,none⟩=some vs
theorem FU(w:World)(vs vf:Value){α:Type}(f:α->Int)(B:Nat):OwnFrom B (fun(s:α)W=>C3 w vs vf (f s) W):=
 Own.from (fun _ _ _ _ hs hg hr=>⟨cell_kept hs.1 hg hr,(frozen_kept hs.1 hg hr).trans hs.2.1,cell_kept hs.2.2.1 hg hr,cell_kept hs.2.2.2.1 hg hr,cell_kept hs.2.2.2.2 hg hr⟩) _
theorem C3.below{w W W3:World}{vs vf:Value}{p:Int}(h:C3 w vs vf p W)(hb:Below W.heap.size W W3):C3 w vs vf p W3:=
 ⟨Ah hb h.1,(hb.frozen (p:=⟨w.heap.size+2,0,none⟩) (World.block_lt_of_cell? W _ h.1)).trans h.2.1,Ah hb h.2.2.1,Ah hb h.2.2.2.1,Ah hb h.2.2.2.2⟩
theorem Ev{W:World}{a b:Nat}{u v:Value}(h:W.cell? ⟨a,0,none⟩=some v)(hne:a≠b):(W.setCell ⟨b,0,none⟩ u).cell? ⟨a,0,none⟩=some v:=
 (World.cell?_of_block (a:=⟨a,0,none⟩) (heap_setCell_other W ⟨b,0,none⟩ a u hne)).trans h
theorem C3.set{w W:World}{vs vf:Value}{p:Int}(h:C3 w vs vf p W)(q:Int):C3 w vs vf q (W.setCell ⟨w.heap.size+2,0,none⟩ (.int .i64 q)):=
 ⟨World.cell?_setCell_same' _ _ _ (by rw[h.1];rfl),by rw[World.frozen?_setCell];exact h.2.1,Ev h.2.2.1 (by omega),Ev h.2.2.2.1 (by omega),Ev h.2.2.2.2 (by omega)⟩
theorem E3{B:Nat}{w W W3:World}{vs vf:Value}{p q:Int}(h:C3 w vs vf p W)(hB:Below w.heap.size w W)(hb:Below W.heap.size W W3):
  KeepsFrom B W (W3.setCell ⟨w.heap.size+2,0,none⟩ (.int .i64 q)).drew/\KpW w.heap.size (w.heap.size+3) W (W3.setCell ⟨w.heap.size+2,0,none⟩ (.int .i64 q)).drew/\
   C3 w vs vf q (W3.setCell ⟨w.heap.size+2,0,none⟩ (.int .i64 q)).drew/\Below w.heap.size w (W3.setCell ⟨w.heap.size+2,0,none⟩ (.int .i64 q)).drew:=by
 have h3:=(h.below hb).set q;have hb2:Below w.heap.size W (W3.setCell ⟨w.heap.size+2,0,none⟩ (.int .i64 q)).drew:=((hb.mono hB.size).setCell (p:=⟨w.heap.size+2,0,none⟩) (by simp) _).trans (Below.drew Ad);refine⟨((DR hb).trans ((KeepsOthers.setCell _ _ _).from _)).trans ((KeepsOthers.drew _).from _),⟨hb2, ?_⟩,h3,hB.trans hb2⟩;show(W3.setCell ⟨w.heap.size+2,0,none⟩ (.int .i64 q)).heap[w.heap.size+3]? =_;rw[heap_setCell_other W3 ⟨w.heap.size+2,0,none⟩ (w.heap.size+3) _ (by simp)];exact hb.block _ (World.block_lt_of_cell? W _ h.2.2.2.2)
theorem Ik{B:Nat}{w W W3:World}{vs vf:Value}{p:Int}(h:C3 w vs vf p W)(hB:Below w.heap.size w W)(hb:Below W.heap.size W W3):
  KeepsFrom B W W3/\KpW w.heap.size (w.heap.size+3) W W3/\C3 w vs vf p W3/\Below w.heap.size w W3:=
 ⟨DR hb,⟨hb.mono hB.size,hb.block _ (World.block_lt_of_cell? W _ h.2.2.2.2)⟩,h.below hb,hB.trans (hb.mono hB.size)⟩
theorem PA(w:World)(vl:Value)(l:List Sig)(hK:BN w)(hl:AH w vl l):
  Calls Tryz.prog 106 #[vl,.func (.func 107) #[] #[]] w (Av (.int .i64 (if At l then A9 (fun _=>true) l else 0)) w):=by
 have hlx:=hl;obtain⟨ao,cap,b,off,rfl,hl⟩:=hl;have hn:=hl.nb
 cases hv:At l
 ·go_enter Tryz.func106,Tryz.ntmps106
  go_wp2_with fail
  refine(Cv _ _ l (hK.below (by repeat(first|exact Ad|assumption|apply AD|apply AE))) (hlx.below (by repeat(first|exact Ad|assumption|apply AD|apply AE)))).mono ?_;rintro e w1 ⟨rfl,n,rfl⟩;rw[hv];go_wp2;go_ret;exact⟨rfl,AE (by repeat(first|exact Ad|assumption|apply AD|apply AE)) _⟩
 have hV:Hid (∀W,Below w.heap.size w W->Calls Tryz.prog 41 #[.slice ao l.length cap] W (DL (.bool true) W)):=fun W hW=>by
  have:=Cv W _ l (hK.below hW) (hlx.below hW)
  rwa [hv]at this
 refine callsIn_wide (n:=5)|>.1 ?_;refine callsIn_of_wp_marks Tryz.func106 rfl trivial ?_;simp only[Tryz.ntmps106,List.size_toArray,List.length_cons,List.length_nil,Nat.reduceAdd,Nat.reduceSub,Array.replicate_succ,Array.replicate_zero,List.push_toArray,List.append_toArray,List.nil_append,List.cons_append]
 gi_wp2_with fail
 refine⟨trivial, ?_⟩;refine(callsIn_wide.2 (hV.out _ (by repeat(first|exact Ad|assumption|apply AD|apply AE)))).mono ?_;rintro e w1 ⟨rfl,n1,hw1⟩
 have hB1:Below w.heap.size w w1:=by rw[hw1];exact AE (by repeat(first|exact Ad|assumption|apply AD|apply AE)) _
 have hz1:w1.heap.size=w.heap.size+2:=by rw[hw1];simp[World.drewN]
 have c0:w1.cell? ⟨w.heap.size,0,none⟩=some (.slice ao l.length cap):=by rw[hw1];exact Pv n1 (Ah (Ao _) (Fz w _ _))
 have c1:w1.cell? ⟨w.heap.size+1,0,none⟩=some (.func (.func 107) #[] #[]):=by rw[hw1];have:=Fz (w.alloc (.cells #[.slice ao l.length cap] 22)) (.func (.func 107) #[] #[]) 148;rwa [World.size_alloc]at this
 clear hw1
 gi_wp2_with fail
 refine⟨trivial, ?_⟩;refine(callsIn_wide.2 (Di _ _ _ _)).mono ?_;rintro e w2 ⟨rfl,hw2⟩
 gi_wp2_with fail
 rw[<-hw2]
 have hB2:Below w.heap.size w w2:=by rw[hw2];exact hB1.trans ((((Below.refl _ w1).alloc leR _).alloc (by simp) _).mono (by omega))
 have hz2:w2.heap.size=w.heap.size+4:=by rw[hw2];simp[hz1]
 have e0:w2.cell? ⟨w.heap.size,0,none⟩=some (.slice ao l.length cap):=by rw[hw2];exact Ah (Ao _) (Ah (Ao _) c0)
 have e1:w2.cell? ⟨w.heap.size+1,0,none⟩=some (.func (.func 107) #[] #[]):=by rw[hw2];exact Ah (Ao _) (Ah (Ao _) c1)
 have en:=Fz w1 (.int .i64 1) 3
 have e2:w2.cell? ⟨w.heap.size+2,0,none⟩=some (.int .i64 1):=by rw[hw2,<-hz1];exact Ah (Ao _) en
 have f2:w2.frozen? ⟨w.heap.size+2,0,none⟩=false:=by rw[hw2,<-hz1];exact((Ao _).frozen (p:=⟨w1.heap.size,0,none⟩) (by simp)).trans (SW w1 _ _)
 have e3:w2.cell? ⟨w.heap.size+3,0,none⟩=some (.slice ao l.length cap):=by
  have:=Fz (w1.alloc (.cells #[.int .i64 1] 3)) (.slice ao l.length cap) 22;rw[World.size_alloc,hz1]at this;rw[hw2];exact this
 have hvx:=hv;simp only[At,Bool.and_eq_true,decide_eq_true_eq]at hvx;obtain⟨⟨⟨hl1,hl6⟩,hA⟩,-⟩:=hvx
 have hsz:∀s∈l,AS s=true:=fun s hs=>EY hA leR s (by rwa [List.take_length])
 have hb:b<w.heap.size:=by
  have:=World.block_lt_of_cell? w _ (hl.nn 0 (by omega));exact this
 have hmx:Tryz.prog.follows .mixedOrders=true:=by kernel_rfl
 clear hA c0 c1 en hw2 hB1 hz1
 refine wpIn_rangeFunc_ownG rfl (by omega) (gf:=108) (lb:=#[.pointer (some ⟨w.heap.size+2+1,0,none⟩)]) rfl trivial (enters_of Tryz.func108 (by kernel_rfl) rfl)
  (Ca Fence.wide (5-1) trivial rfl (by omega) (w.heap.size+3) w.heap.size b off cap ao l hv hb w2 (by omega) (by omega) e3 (hl.below hB2)) KpW.trans (KpW.put (by omega) (by omega)) Ad (fun _=>rfl)
  (fun pre W=>C3 w (.slice ao l.length cap) (.func (.func 107) #[] #[]) (Bw (fun _=>true) l pre) W/\Below w.heap.size w W)
  (fun _ _ _=>False)
  (OwnFrom.and (FU w _ _ (Bw (fun _=>true) l) _) (ownFrom_below leR (by omega)))
  (fun _ _ _ _ _ hs _ _=>hs)
  ⟨⟨e2,f2,e0,e1,e3⟩,hB2⟩
  (fun x=>{tmps:=#[.slice ao l.length cap,.func (.func 107) #[] #[],.pointer (some ⟨w.heap.size,0,none⟩),.pointer (some ⟨w.heap.size+1,0,none⟩),.int .i64 0,.pointer (some ⟨w.heap.size+2,0,none⟩),.int .i64 ((x:Nat):Int),.slice ao l.length cap,.bool true,.bool false,.slice ao l.length cap,.func (.func 108) #[] #[.pointer (some ⟨w.heap.size+2+1,0,none⟩)],.int .i64 ((x:Nat):Int),.int .i64 (As (l.take x)),undef,undef,undef,undef,undef,undef,undef,undef,undef,undef,undef,undef,undef,undef],defers:=[]}) ?assign ?body ?done ?stop
 case assign=>
  intro lY x W K hK;unfold IT
  gi_wp2
  exact hK
 case body=>
  rintro lY pre x W ⟨hI,hB⟩ hpl;obtain⟨q2,g2,q0,q1,-⟩:=id hI
  have hd:1<=5-1-1:=by omega
  have hlW:=hl.below hB;obtain⟨x,hx⟩:=x;have n0:=hlW.nn x hx;have n1:=hlW.ni x hx;have n2:=hlW.nz x hx;obtain rfl:=hl.ad (by omega)
  have hch:∀W:World,Calls Tryz.prog 107 #[.agg #[.string l[x].name,.bool l[x].inp,.int .i64 l[x].size]] W (Av (.bool true) W):=fun W=>Tz W l[x]
  have HCH:=Ab hch;clear hch hlx hK hV hn
  gi_upto_region 6 with(fail)
  gi_cut [19]from 14 (fun v wx=>∃W3:World,W3=wx/\v=.bool true/\Below W.heap.size W W3)
  case first=>
   gi_region_with_o (refine⟨trivial, ?_⟩;gi_at_call 107;refine(CallsIn.inRound lY (callsIn_wide.2 (HCH.out _))).mono ?_;rintro e W3 ⟨rfl,hb3⟩)
   all_goals gi_wp2_with fail
   all_goals
    gi_meet
    case rel=>exact⟨_,rfl,rfl,(Below.drew Ad).trans hb3⟩
  case rest=>
   obtain⟨W3,rfl,rfl,hb3⟩:=hcut;have hsx:=hsz _ (List.getElem_mem hx);obtain⟨hp1,hp2⟩:=IE (ch:=fun _=>true) hsz pre;have hp3:Bw (fun _=>true) l pre<=4096:=Int.le_trans hp2 (LD (by omega));simp only[AS,Bool.and_eq_true,decide_eq_true_eq]at hsx;obtain⟨hs1,hs2⟩:=hsx;have hpw:=G2 hp1 hp3 hs1 hs2;have HSN:Hid (Bw (fun _=>true) l (pre++[⟨x,hx⟩])=Bw (fun _=>true) l pre*l[x].size):=CW _ _ _ _;have r2:=Ah hb3 q2;have r0:=Ah hb3 q0;have m2:=Ah hb3 n2;have g3:W3.frozen? ⟨w.heap.size+2,0,none⟩=false:=(hb3.frozen (p:=⟨w.heap.size+2,0,none⟩) (World.block_lt_of_cell? W _ q2)).trans g2;have r1:=Ah hb3 q1;have HI:=Ab hI;clear q2 q0 q1 n0 n1 n2 g2 e0 e1 e2 e3 f2 HCH hp2 hlW hI;generalize Bw (fun _=>true) l pre=pp at*
   gi_wp2
   gi_region_with_o (fail)
   all_goals gi_wp2
   all_goals
    have hr:=E3 (B:=w2.heap.size) (q:=pp*l[x].size) HI.out hB hb3;exact⟨hr.1,hr.2.1,by rw[HSN.out];exact hr.2.2.1,hr.2.2.2⟩
 case done=>
  rintro D ys W hD rfl ⟨⟨q2,g2,q0,q1,-⟩,hB⟩ hK
  gi_wp2
  refine⟨by simp,.inl ⟨_,_,rfl,run_takeDeferred hK, ?_⟩⟩;exact⟨_,results_tmp rfl _ _ _,by simp[G0],hB.trans (belowK_b (w:=w) leR W D _ _ (by omega) hK rfl rfl)⟩
 case stop=>
  rintro D c pre W _ _ h _;exact h.elim
theorem MN(ch:Sig->Bool)(l:List Sig)(s:Sig):A9 ch (l++[s])=if ch s then A9 ch l*s.size else A9 ch l:=by
 induction l with
 |nil=>simp only[List.nil_append,A9];split<;>simp
 |cons a l ih=>
  simp only[List.cons_append,A9,ih]
  split<;>split<;>simp[Int.mul_assoc]
theorem F2{ch:Sig->Bool}{l:List Sig}{k:Nat}(h:k<l.length):A9 ch (l.take (k+1))=if ch l[k]then A9 ch (l.take k)*l[k].size else A9 ch (l.take k):=by
 rw[List.take_succ_eq_append_getElem h,MN]
theorem LI(ch:Sig->Bool)(l:List Sig)(h:∀s∈l,AS s=true):1<=A9 ch l/\A9 ch l<=4^l.length:=by
 induction l with
 |nil=>simp[A9]
 |cons a l ih=>
  obtain⟨h1,h2⟩:=ih (fun s hs=>h s (List.mem_cons_of_mem _ hs));have ha:=h a List.mem_cons_self;simp only[AS,Bool.and_eq_true,decide_eq_true_eq]at ha;rw[A9,List.length_cons,Int.pow_succ];have h3:=Int.mul_le_mul ha.2 h2 (by omega) (by omega);have h4:=Int.mul_le_mul (show(1:Int)<=a.size by omega) h1 (by omega) (by omega);have h5:(4:Int)*4^l.length=4^l.length*4:=Int.mul_comm _ _
  split<;>omega
theorem MM(l:List Sig):A9 (fun s=>s.inp) l*A9 (fun s=> !s.inp) l=As l:=by
 induction l with
 |nil=>rfl
 |cons a l ih=>
  simp only[A9,As,<-ih]
  rcases Bool.eq_false_or_eq_true a.inp with h|h
  ·rw[if_pos h,if_neg (by rw[h];simp),Int.mul_assoc]
  ·rw[if_neg (by rw[h];simp),if_pos (by rw[h];rfl),Int.mul_left_comm]
theorem MO(l:List Sig):A9 (fun _=>true) l=As l:=by
 induction l with
 |nil=>rfl
 |cons a l ih=>simp[A9,As,ih]
theorem IF{p z:Int}(h1:1<=p)(h2:p<=4096)(h3:2<=z)(h4:z<=4):IntKind.i64.wrap (p*z)=p*z:=by
 refine IntWalk.i64_in _ ⟨?_, ?_⟩
 ·have:=Int.mul_nonneg (show 0<=p by omega) (show 0<=z by omega);omega
 ·have:=Int.mul_le_mul h2 h4 (by omega) (by omega);omega
def GF(l:List Sig)(b:Bool):Int:=if At l then A9 (fun s=>s.inp==b) l else 0
theorem Ba{l:List Sig}(h:At l=true):(∀s∈l,AS s=true)/\1<=l.length/\l.length<=6/\As l<=64:=by
 simp only[At,Bool.and_eq_true,decide_eq_true_eq]at h;exact⟨fun s hs=>EY h.1.2 leR s (by rwa [List.take_length]),h.1.1.1,h.1.1.2,h.2⟩
theorem QD(w:World)(vl:Value)(l:List Sig)(q:Bool)(hl:AH w vl l):Calls Tryz.prog 104 #[vl,.bool q] w (Av (.int .i64 (GF l q)) w):=by
 have hlx:=hl;obtain⟨ao,cap,b,off,rfl,hl⟩:=hl;have hn:=hl.nb
 have HS:Hid (∀c,At l=c->GF l q=if c then A9 (fun s=>s.inp==q) l else 0):=fun c h=>by unfold GF;rw[h]
 cases hv:At l
 ·go_enter Tryz.func104,Tryz.ntmps104
  go_wp2_with fail
  refine(Fj _ _ l hlx).mono ?_;rintro e w1 ⟨rfl,hb⟩;rw[hv];go_wp2;go_ret;exact⟨Dy (by rw[HS.out _ hv];rfl),hb⟩
 obtain⟨hz,hl1,hl6,-⟩:=Ba hv;have HZ:=Ab hz;have HV:=Ab hv;clear hz hv
 go_enter Tryz.func104,Tryz.ntmps104
 go_wp2_with fail
 refine(Fj _ _ l hlx).mono ?_;rintro e w1 ⟨rfl,hb⟩;rw[HV.out];go_wp2
 go_loop [5,6] (fun p i=>∃k:Nat,i=.int .i64 k/\p=.int .i64 (A9 (fun s=>s.inp==q) (l.take k))/\k<=l.length) (fun _ i=>l.length-(intOf i).toNat)
 case atStart=>exact⟨0,rfl,rfl,by omega⟩
 case round=>
  obtain⟨k,rfl,rfl,hk⟩:=hrel
  by_cases hlt:k<l.length
  ·obtain rfl:=hl.ad (by omega);have c1:=Ah hb (hl.ni k hlt);have c2:=Ah hb (hl.nz k hlt);obtain⟨hp1,hp2⟩:=LI (fun s=>s.inp==q) (l.take k) (fun s hs=>HZ.out s (List.mem_of_mem_take hs));have hp3:A9 (fun s=>s.inp==q) (l.take k)<=4096:=Int.le_trans hp2 (LD (by rw[List.length_take];omega));have hsz:=HZ.out _ (List.getElem_mem hlt);simp only[AS,Bool.and_eq_true,decide_eq_true_eq]at hsz;obtain⟨hs1,hs2⟩:=hsz;have hpw:=IF hp1 hp3 hs1 hs2;have HT:=Ab (F2 (ch:=fun s=>s.inp==q) hlt);clear hp2;generalize A9 (fun s=>s.inp==q) (l.take k)=pp at*
   cases hq:(l[k].inp==q)
   ·go_wp2
    go_round
    case rel=>exact⟨k+1,by go_num,by rw[HT.out,hq];rfl,by omega⟩
    case measure=>simp[intOf];omega
   ·go_wp2
    go_round
    case rel=>exact⟨k+1,by go_num,by rw[HT.out,hq];first|rfl|(rw[hpw];rfl),by omega⟩
    case measure=>simp[intOf];omega
  ·obtain rfl:k=l.length:=by omega
   rw[List.take_length];go_wp2;go_ret;exact⟨Dy (by rw[HS.out _ HV.out];rfl),hb⟩
end Go.Proofs.YtncjeamdkjcebaaGreatDoor
