/- Signals: Valid, Letters, Inputs, Outputs, In, Out, Join, and the reference's. -/
import Derived.Deep.CutBlock
import Derived.RangeFuncNested
import Derived.RangeFuncBound
import Derived.RangeFuncCalls
import Derived.RangeFuncLeaves
import Derived.Shelf.Abstract
import Derived.Shelf.RegionOpen
import Derived.OwnWalkIn
import Derived.TacticsInMore
import Derived.LoopNIn
import Derived.LoopIn
import Derived.Sort.CutIn
import Derived.Deep.RegionWith
import Derived.StillTail
import Derived.StillTailTactics
import Derived.OrdersIn
import Derived.Test.YtncjeamdkjcebaaDoorZBase
set_option linter.all false
set_option maxHeartbeats 4000000
set_option maxRecDepth 100000
namespace Go.Proofs.YtncjeamdkjcebaaDoor
open Go.RowKit
open Go.RowKit Go.Shelf
open Go
structure Sig where
 name:ByteArray
 inp:Bool
 size:Int
def Hi:Sig:=⟨⟨#[]⟩,false,0⟩
structure Gy(w:World)(ao:Option Addr)(cap b off:Nat)(l:List Sig):Prop where
 lc:l.length<=cap
 cm:cap<=maxLen
 nm:l.length<=Bg
 ad:0<l.length->ao=some ⟨b,off,none⟩
 nn:∀j(h:j<l.length),w.cell? ⟨b,off+j*3,none⟩=some (.string l[j].name)
 ni:∀j(h:j<l.length),w.cell? ⟨b,off+j*3+1,none⟩=some (.bool l[j].inp)
 nz:∀j(h:j<l.length),w.cell? ⟨b,off+j*3+2,none⟩=some (.int .i64 l[j].size)
 sz:∀s∈l,I64 s.size
 sn:∀s∈l,s.name.size<=Bg
def AJ(w:World)(v:Value)(l:List Sig):Prop:=∃ao cap b off,v=.slice ao l.length cap/\Gy w ao cap b off l
theorem Gy.below{w wr:World}{ao:Option Addr}{cap b off:Nat}{l:List Sig}(h:Gy w ao cap b off l)(hb:Below w.heap.size w wr):Gy wr ao cap b off l:=
 {h with
  nn:=fun j hj=>Aj hb (h.nn j hj)
  ni:=fun j hj=>Aj hb (h.ni j hj)
  nz:=fun j hj=>Aj hb (h.nz j hj)}
theorem AJ.below{w wr:World}{v:Value}{l:List Sig}(h:AJ w v l)(hb:Below w.heap.size w wr):AJ wr v l:=by
 obtain⟨ao,cap,b,off,rfl,h⟩:=h;exact⟨ao,cap,b,off,rfl,h.below hb⟩
theorem Gy.nb{w:World}{ao:Option Addr}{cap b off:Nat}{l:List Sig}(h:Gy w ao cap b off l):l.length<=140737488351232:=h.nm
def J6:List (List UInt8):=[[105,110,112,117,116],[111,117,116,112,117,116],[112,97,114,116],[97,115,115,117,109,101],[103,117,97,114,97,110,116,101,101],[116,114,117,101],[102,97,108,115,101],[97,100,100],[100,114,111,112],[114,101,112,108,97,99,101]]
def Eb(j:Nat):ByteArray:=⟨(J6.getD j []).toArray⟩
def Bt(w:World):Prop:=∀j,j<10->w.cell? ⟨0,j,none⟩=some (.string (Eb j))
theorem Bt.below{w wr:World}(h:Bt w)(hb:Below w.heap.size w wr):Bt wr:=fun j hj=>Aj hb (h j hj)
def J0(s:ByteArray):Bool:=J6.contains s.toList
def E5(first:Bool)(c:UInt8):Bool:=(decide (97<=c.toNat)&&decide (c.toNat<=122))||(!first&&((decide (48<=c.toNat)&&decide (c.toNat<=57))||decide (c.toNat=95)))
def Gt(s:ByteArray):Bool:=decide (1<=s.size)&&decide (s.size<=12)&&(List.range s.size).all (fun i=>E5 (decide (i=0)) (s.data.toList.getD i 0))&& !J0 s
theorem DR{α:Type}(l:List α)(k:Nat)(h:k<l.length):l.drop k=l[k]::l.drop (k+1):=List.drop_eq_getElem_cons h
def Fk(s:ByteArray)(k:Nat):Bool:=(List.range k).all (fun i=>E5 (decide (i=0)) (s.data.toList.getD i 0))
theorem J5(k:Nat)(_h:k<10):(Eb k).toList=J6.getD k []:=by
 rw[ByteArray.toList_eq];simp[Eb]
theorem K4(k:Nat)(h:k<10):∀W:World,(Instr.index 138 (.agg #[.string (Eb 0),.string (Eb 1),.string (Eb 2),.string (Eb 3),.string (Eb 4),.string (Eb 5),.string (Eb 6),.string (Eb 7),.string (Eb 8),.string (Eb 9)]) (.int .i64 (k:Int))).run Tryd.prog W=.ok (.string (Eb k)) W:=by
 match k,h with
 |0,_=>exact fun _=>by kernel_rfl
 |1,_=>exact fun _=>by kernel_rfl
 |2,_=>exact fun _=>by kernel_rfl
 |3,_=>exact fun _=>by kernel_rfl
 |4,_=>exact fun _=>by kernel_rfl
 |5,_=>exact fun _=>by kernel_rfl
 |6,_=>exact fun _=>by kernel_rfl
 |7,_=>exact fun _=>by kernel_rfl
 |8,_=>exact fun _=>by kernel_rfl
 |9,_=>exact fun _=>by kernel_rfl
theorem KT{c:UInt8}(h:(97<=(c.toNat:Int)/\(c.toNat:Int)<=122)\/(48<=(c.toNat:Int)/\(c.toNat:Int)<=57)\/(c.toNat:Int)=95):E5 false c=true:=by
 simp only[E5,Bool.or_eq_true,Bool.and_eq_true,decide_eq_true_eq,Bool.not_false,true_and];omega
theorem JH{c:UInt8}(h:¬((97<=(c.toNat:Int)/\(c.toNat:Int)<=122)\/(48<=(c.toNat:Int)/\(c.toNat:Int)<=57)\/(c.toNat:Int)=95)):E5 false c=false:=by
 rw[<-Bool.not_eq_true];simp only[E5,Bool.or_eq_true,Bool.and_eq_true,decide_eq_true_eq,Bool.not_false,true_and];omega
theorem JI{c:UInt8}(h:97<=(c.toNat:Int)/\(c.toNat:Int)<=122):E5 (decide (0=0)) c=true:=by
 simp only[E5,Bool.or_eq_true,Bool.and_eq_true,decide_eq_true_eq];omega
theorem Hr{c:UInt8}(h:¬(97<=(c.toNat:Int)/\(c.toNat:Int)<=122)):E5 (decide (0=0)) c=false:=by
 rw[<-Bool.not_eq_true];simp[E5];omega
theorem DH(p:Nat->Bool)(k:Nat):(List.range (k+1)).all p=((List.range k).all p&&p k):=by
 rw[List.range_succ,List.all_append];simp
theorem Dg(p:Nat->Bool)(n k:Nat)(h:k<n)(hp:p k=false):(List.range n).all p=false:=by
 rw[List.all_eq_false];exact⟨k,List.mem_range.2 h,by simp[hp]⟩
theorem QO(w:World)(s:ByteArray)(hK:Bt w)(hs:s.size<=Bg):
  Calls Tryd.prog 56 #[.string s] w fun e w'=>e=.returned (.bool (Gt s))/\w=w':=by
 have hsz:s.size<=140737488351232:=hs;clear hs;have k0:=hK 0 (by omega);have k1:=hK 1 (by omega);have k2:=hK 2 (by omega);have k3:=hK 3 (by omega);have k4:=hK 4 (by omega);have k5:=hK 5 (by omega);have k6:=hK 6 (by omega);have k7:=hK 7 (by omega);have k8:=hK 8 (by omega);have k9:=hK 9 (by omega)
 by_cases h1:(s.size:Int)<1
 ·go_enter Tryd.func56,Tryd.ntmps56
  go_wp2
  go_step3
  go_wp2
  (try rw[Exit.noGoto_ret])
  go_ret;exact⟨Av (by simp[Gt];omega),rfl⟩
 have h3:(1:Int)<=s.size:=by omega
 by_cases h2:(12:Int)<s.size
 ·clear h1
  go_enter Tryd.func56,Tryd.ntmps56
  go_wp2
  go_step3
  go_wp2
  (try rw[Exit.noGoto_ret])
  go_ret;exact⟨Av (by simp[Gt];omega),rfl⟩
 have h4:(s.size:Int)<=12:=by omega
 clear h1 h2
 go_enter Tryd.func56,Tryd.ntmps56
 go_wp2
 go_step3
 go_wp2
 go_step3
 go_upto_block 0 with(fail)
 go_cut [3] (fun v wx=>w=wx/\v=.bool (Fk s s.size))
 case first=>
  go_wp2
  go_loopg [3,18] s.size (fun gh ok i wr=>∃k:Nat,gh=s.size-k/\i=.int .i64 k/\ok=.bool true/\k<=s.size/\Hid (Fk s k=true)/\w=wr)
  case atStart=>exact⟨0,rfl,rfl,rfl,by omega,rfl,rfl⟩
  case round=>
   obtain⟨k,hgk,rfl,rfl,hk,HE,rfl⟩:=hrel;have HG:=Ab hgk;clear hgk
   by_cases hlt:k<s.size
   ·have A:Hid (s.data.toList.getD k 0=s[k]):=by show _=_;simp[List.getD,hlt];rfl
    by_cases hk0:0<k
    ·have hz:Hid (decide (k=0)=false):=by show _=_;simp;omega
     go_wp2
     all_goals
      first
      |(go_roundg (s.size-(k+1))
        case measure=>have:=HG.out;omega
        case rel=>exact⟨k+1,rfl,by go_num,rfl,by omega,by show _=_;rw[Fk,DH,A.out,hz.out];(try simp only[beq_iff_eq]at*);(try simp only[beq_eq_false_iff_ne]at*);rw[show(List.range k).all _=true from HE.out,KT (by omega)];rfl,rfl⟩)
      |(go_meet
        case rel=>exact⟨rfl,by rw[Fk,Dg _ _ k hlt (by rw[A.out,hz.out];(try simp only[beq_iff_eq]at*);(try simp only[beq_eq_false_iff_ne]at*);exact JH (by omega))]⟩)
    ·obtain rfl:k=0:=by omega
     go_wp2
     all_goals
      first
      |(go_roundg (s.size-(0+1))
        case measure=>have:=HG.out;omega
        case rel=>exact⟨0+1,rfl,by go_num,rfl,by omega,by show _=_;rw[Fk,DH,A.out];rw[JI (by omega)];rfl,rfl⟩)
      |(go_meet
        case rel=>exact⟨rfl,by rw[Fk,Dg _ _ 0 hlt (by rw[A.out];exact Hr (by omega))]⟩)
   ·obtain rfl:k=s.size:=by omega
    go_wp2
    go_meet
    case rel=>exact⟨rfl,by rw[HE.out]⟩
 case rest=>
  obtain⟨rfl,rfl⟩:=hcut;go_wp2;clear k0 k1 k2 k3 k4 k5 k6 k7 k8 k9 hK
  go_loopg [2,48] 10 (fun gh r i wr=>∃k:Nat,gh=10-k/\i=.int .i64 k/\r=.bool false/\k<=10/\Hid (∀j,j<k->J6.getD j []≠s.toList)/\w=wr)
  case atStart=>exact⟨0,rfl,rfl,rfl,by omega,fun j hj=>absurd hj (by omega),rfl⟩
  case round=>
   obtain⟨k,hgk,rfl,rfl,hk,HE,rfl⟩:=hrel;have HG:=Ab hgk;clear hgk
   by_cases hlt:k<10
   ·have hi:=K4 k hlt;have hkl:=J5 k hlt;have HKL:=Ab hkl;clear hkl;go_wp2
    ·have hq:((Eb k).toList==s.toList)=true:=by assumption
     (try rw[Exit.noGoto_ret])
     go_ret;refine⟨Av (Eq.symm ?_),rfl⟩;rw[HKL.out]at hq
     have h5:J0 s=true:=by
      rw[J0,List.contains_iff_mem,<-eq_of_beq hq,Ag J6 [] k (by simpa[J6]using hlt)];exact List.getElem_mem _
     rw[Gt,h5];simp
    ·have hq:((Eb k).toList==s.toList)=false:=by assumption
     go_roundg (10-(k+1))
     case measure=>have:=HG.out;omega
     case rel=>
      refine⟨k+1,rfl,by go_num,rfl,by omega,fun j hj=> ?_,rfl⟩
      rcases Nat.lt_or_ge j k with h|h
      ·exact HE.out j h
      ·obtain rfl:j=k:=by omega
       rw[HKL.out]at hq;simpa using hq
   ·obtain rfl:k=10:=by omega
    go_wp2
    (try rw[Exit.noGoto_ret])
    go_ret;refine⟨Av ?_,rfl⟩
    have h5:J0 s=false:=by
     rw[J0,<-Bool.not_eq_true,List.contains_iff_mem];intro h;obtain⟨j,hj,e⟩:=List.getElem_of_mem h;refine HE.out j (by simpa[J6]using hj) ?_;rw[Ag _ _ _ hj,e]
    rw[Gt,h5,decide_eq_true (show 1<=s.size by omega),decide_eq_true (show s.size<=12 by omega)];simp[Fk]
def Ar:List Sig->Int
 |[]=>1
 |s::r=>s.size*Ar r
theorem Li(l:List Sig)(s:Sig):Ar (l++[s])=Ar l*s.size:=by
 induction l with
 |nil=>simp[Ar]
 |cons a l ih=>simp only[List.cons_append,Ar,ih,Int.mul_assoc]
theorem B9{l:List Sig}{k:Nat}(h:k<l.length):Ar (l.take (k+1))=Ar (l.take k)*l[k].size:=by
 rw[List.take_succ_eq_append_getElem h,Li]
def AV(s:Sig):Bool:=decide (2<=s.size)&&decide (s.size<=4)
def OD(l:List Sig)(i:Nat):Bool:=(List.range i).all fun k=> !((l.getD k Hi).name.toList==(l.getD i Hi).name.toList)
def H7(l:List Sig)(i:Nat):Bool:=Gt (l.getD i Hi).name&&AV (l.getD i Hi)&&OD l i
def Fh(l:List Sig)(k:Nat):Bool:=(List.range k).all (H7 l)
def Ax(l:List Sig):Bool:=decide (1<=l.length)&&decide (l.length<=6)&&Fh l l.length&&decide (Ar l<=64)
theorem Lc{k:Nat}(h:k<=6):(4:Int)^k<=4096:=by
 match k,h with
 |0,_=>decide
 |1,_=>decide
 |2,_=>decide
 |3,_=>decide
 |4,_=>decide
 |5,_=>decide
 |6,_=>decide
theorem FY(l:List Sig)(h:∀s∈l,AV s=true):1<=Ar l/\Ar l<=4^l.length:=by
 induction l with
 |nil=>simp[Ar]
 |cons a l ih=>
  obtain⟨h1,h2⟩:=ih (fun s hs=>h s (List.mem_cons_of_mem _ hs));have ha:=h a List.mem_cons_self;simp only[AV,Bool.and_eq_true,decide_eq_true_eq]at ha;rw[Ar,List.length_cons,Int.pow_succ];refine⟨?_, ?_⟩
  ·have:=Int.mul_le_mul (show(1:Int)<=a.size by omega) h1 (by omega) (by omega);omega
  ·rw[Int.mul_comm (4^l.length) 4];exact Int.mul_le_mul ha.2 h2 (by omega) (by omega)
theorem Et{l:List Sig}{k:Nat}(h:Fh l k=true)(hk:k<=l.length):∀s∈l.take k,AV s=true:=fun s hs=>by
 obtain⟨j,hj,rfl⟩:=List.getElem_of_mem hs;rw[List.length_take]at hj;have:=List.all_eq_true.1 h j (List.mem_range.2 (by omega));simp only[H7,Bool.and_eq_true]at this;rw[List.getElem_take];have e:=this.1.2
 rwa [Ag _ _ _ (by omega)]at e
theorem IC{l:List Sig}{k:Nat}(h:Fh l k=true)(hk:k<l.length)(h6:l.length<=6)(hs:AV l[k]=true):
  (1<=Ar (l.take k)/\Ar (l.take k)<=4096)/\IntKind.i64.wrap (Ar (l.take k)*l[k].size)=Ar (l.take (k+1)):=by
 have h1:=FY _ (Et h (by omega))
 have h2:Ar (l.take k)<=4096:=by
  exact Int.le_trans h1.2 (Lc (by rw[List.length_take];omega))
 refine⟨⟨h1.1,h2⟩, ?_⟩;rw[B9 hk];simp only[AV,Bool.and_eq_true,decide_eq_true_eq]at hs;refine IntWalk.i64_in _ ⟨?_, ?_⟩
 ·have:=Int.mul_nonneg (show 0<=Ar (l.take k)by omega) (show 0<=l[k].size by omega);omega
 ·have:=Int.mul_le_mul h2 hs.2 (by omega) (by omega);omega
theorem Mz(l:List Sig)(k:Nat):Fh l (k+1)=(Fh l k&&H7 l k):=DH _ _
theorem D9{l:List Sig}{n k:Nat}(h:k<n)(hs:H7 l k=false):Fh l n=false:=Dg _ _ _ h hs
theorem Cf(w:World)(vl:Value)(l:List Sig)(hK:Bt w)(hl:AJ w vl l):
  Calls Tryd.prog 22 #[vl] w (Dt (.bool (Ax l)) w):=by
 obtain⟨ao,cap,b,off,rfl,hl⟩:=hl;have hn:=hl.nb
 by_cases h1:(l.length:Int)<1
 ·go_enter Tryd.func22,Tryd.ntmps22
  go_wp2
  go_step3
  go_wp2
  (try rw[Exit.noGoto_ret])
  go_ret;exact⟨Av (by simp[Ax];omega),0,rfl⟩
 have h3:(1:Int)<=l.length:=by omega
 by_cases h2:(6:Int)<l.length
 ·clear h1
  go_enter Tryd.func22,Tryd.ntmps22
  go_wp2
  go_step3
  go_wp2
  (try rw[Exit.noGoto_ret])
  go_ret;exact⟨Av (by simp[Ax];omega),0,rfl⟩
 have h4:(l.length:Int)<=6:=by omega
 have hN:Hid (∀(W:World)(s:ByteArray),Below w.heap.size w W->s.size<=Bg->Calls Tryd.prog 56 #[.string s] W fun e w'=>e=.returned (.bool (Gt s))/\W=w'):=fun W s hW h=>QO W s (hK.below hW) h
 have HSN:Hid (∀j(h:j<l.length),l[j].name.size<=Bg):=fun j h=>hl.sn _ (List.getElem_mem h)
 clear h1 h2 hK
 go_enter Tryd.func22,Tryd.ntmps22
 go_wp2
 go_step3
 go_wp2
 go_step3
 go_upto_block 0 with(fail)
 go_cut [3,4] (fun ok pr wx=>(∃n,wx=w.drewN n)/\ok=.bool (Fh l l.length)/\∃p,pr=.int .i64 p/\Hid (Fh l l.length=true->p=Ar l))
 case first=>
  go_wp2
  go_loopg [3,4,17] l.length (fun gh ok pr i wr=>∃k n:Nat,gh=l.length-k/\i=.int .i64 k/\ok=.bool true/\pr=.int .i64 (Ar (l.take k))/\k<=l.length/\Hid (Fh l k=true)/\wr=w.drewN n)
  case atStart=>exact⟨0,0,rfl,rfl,rfl,rfl,by omega,rfl,rfl⟩
  case round=>
   obtain⟨k,n,hgk,rfl,rfl,rfl,hk,HE,rfl⟩:=hrel;have HG:=Ab hgk;clear hgk
   by_cases hlt:k<l.length
   ·obtain rfl:=hl.ad (by omega);have c0:=hl.nn k hlt;have c2:=hl.nz k hlt;have hz:=hl.sz _ (List.getElem_mem hlt);have A:Hid (l.getD k Hi=l[k]):=Ag _ _ _ hlt;unfold I64 at hz
    cases hq:Gt l[k].name
    ·go_wp2_with fail
     refine(hN.out _ _ (Ai _ _ _) (HSN.out k hlt)).mono ?_;rintro e w' ⟨rfl,rfl⟩;rw[hq];go_wp2
     go_meet
     case rel=>exact⟨⟨n,rfl⟩,by rw[D9 hlt (by rw[H7,A.out,hq];rfl)],_,rfl,fun h=>by rw[D9 hlt (by rw[H7,A.out,hq];rfl)]at h;cases h⟩
    ·by_cases hs:2<=l[k].size/\l[k].size<=4
     case neg=>
      have HF:Hid (Fh l l.length=false):=D9 hlt (by
       have:AV l[k]=false:=by rw[<-Bool.not_eq_true];simp only[AV,Bool.and_eq_true,decide_eq_true_eq];exact hs
       rw[H7,A.out,this];simp)
      rcases(by omega:l[k].size<2\/(2<=l[k].size/\4<l[k].size))with hs2|hs2
      all_goals
       clear hs
       go_wp2_with fail
       refine(hN.out _ _ (Ai _ _ _) (HSN.out k hlt)).mono ?_;rintro e w' ⟨rfl,rfl⟩;rw[hq];go_wp2
       go_meet
       case rel=>exact⟨⟨n,rfl⟩,by rw[HF.out],_,rfl,fun h=>by rw[HF.out]at h;cases h⟩
     have hsB:AV l[k]=true:=by simp only[AV,Bool.and_eq_true,decide_eq_true_eq];exact hs
     obtain⟨⟨hp1,hp2⟩,hpw⟩:=IC HE.out hlt (by omega) hsB;have HPW:=Ab hpw;have HSB:=Ab hsB;have HQ:=Ab hq;obtain⟨hs1,hs2⟩:=hs;have hI:Hid (AJ w (.slice (some ⟨b,off,none⟩) l.length cap) l):=⟨_,_,b,off,rfl,hl⟩;clear hpw hsB;generalize Ar (l.take k)=pr at*
     go_wp2_with fail
     refine(hN.out _ _ (Ai _ _ _) (HSN.out k hlt)).mono ?_;rintro e w' ⟨rfl,rfl⟩;rw[hq];clear hq;go_wp2
     go_loopg [3,44] k (fun gh ok i wx=>∃j m:Nat,gh=k-j/\i=.int .i64 j/\ok=.bool true/\j<=k/\Hid ((List.range j).all (fun i=> !((l.getD i Hi).name.toList==(l.getD k Hi).name.toList))=true)/\wx=w.drewN m)
     case atStart=>exact⟨0,n,rfl,rfl,rfl,by omega,rfl,rfl⟩
     case round=>
      obtain⟨j,m,hgj,rfl,rfl,hj,HJ,rfl⟩:=hrel;have HGJ:=Ab hgj;clear hgj
      by_cases hltj:j<k
      ·have hjl:j<l.length:=by omega
       have c3:=hl.nn j hjl;have A2:Hid (l.getD j Hi=l[j]):=Ag _ _ _ hjl;go_wp2
       go_quiet (fail)
       go_wp2
       ·have he:(l[j].name.toList==l[k].name.toList)=true:=by assumption
        have HF:Hid (Fh l l.length=false):=D9 hlt (by rw[H7,OD,Dg _ _ j hltj (by rw[A.out,A2.out,he];rfl)];simp)
        go_meet
        case rel=>exact⟨⟨_,World.drewN_drewN ..⟩,by rw[HF.out],_,rfl,fun h=>by rw[HF.out]at h;cases h⟩
       ·have he:(l[j].name.toList==l[k].name.toList)=false:=by assumption
        go_roundg (k-(j+1))
        case measure=>have:=HGJ.out;omega
        case rel=>exact⟨j+1,_,rfl,by go_num,rfl,by omega,by show _=_;rw[DH,HJ.out,A.out,A2.out,he];rfl,rfl⟩
      ·obtain rfl:j=k:=by omega
       have hpw:=HPW.out;go_wp2
       go_roundg (l.length-(j+1))
       case measure=>have:=HG.out;omega
       case rel=>exact⟨j+1,m,rfl,by go_num,rfl,by first|rw[HPW.out]|rfl,by omega,by show _=_;rw[Mz,HE.out,H7,A.out,HQ.out,HSB.out,OD,HJ.out];rfl,rfl⟩
   ·obtain rfl:k=l.length:=by omega
    go_wp2
    go_meet
    case rel=>exact⟨⟨n,rfl⟩,by rw[HE.out],_,rfl,fun _=>by rw[List.take_length]⟩
 case rest=>
  obtain⟨⟨n,rfl⟩,rfl,p,rfl,HP⟩:=hcut
  have HV:Hid (Ax l=(Fh l l.length&&decide (Ar l<=64))):=by
   show _=_;rw[Ax,decide_eq_true (show 1<=l.length by omega),decide_eq_true (show l.length<=6 by omega)];rfl
  cases hA:Fh l l.length
  ·go_wp2
   (try rw[Exit.noGoto_ret])
   go_ret;exact⟨Av (by rw[HV.out,hA];rfl),n,rfl⟩
  ·have HP2:=Ab (HP.out hA);go_wp2
   (try rw[Exit.noGoto_ret])
   go_ret;exact⟨Av (by rw[HV.out,hA,HP2.out];rfl),n,rfl⟩
attribute [local go_sem] Oper.semAt_some
def KpW(n₀ Bs:Nat)(W W':World):Prop:=Below n₀ W W'/\W'.heap[Bs]? =W.heap[Bs]?
theorem KpW.trans{n₀ Bs:Nat}{A B C:World}(h:KpW n₀ Bs A B)(k:KpW n₀ Bs B C):KpW n₀ Bs A C:=⟨h.1.trans k.1,k.2.trans h.2⟩
theorem KpW.refl(n₀ Bs:Nat)(A:World):KpW n₀ Bs A A:=⟨Ad,rfl⟩
theorem KpW.put{n₀ Bs:Nat}{w:World}(hn:n₀<=w.heap.size)(hB:Bs<w.heap.size)(W:World)(l:Nat)(o o':Obj)(hl:w.heap.size<=l)(h:W.heap[l]? =some o)(h1:o.isCells=false)(h2:o.isWalk=false):KpW n₀ Bs W (W.putObj l o'):=
 ⟨belowK_b hn W l o o' hl h h1 h2,(grownBy_putObj' W l o').block Bs (by have:=(ltE h);omega) (by simp;omega)⟩
theorem NQ{n₀:Nat}{w wr:World}{a:Addr}{v:Value}(hb:Below n₀ w wr)(ha:a.block<n₀)(h:w.cell? a=some v):wr.cell? a=some v:=(hb.cell ha).trans h
theorem Gy.belowN{n₀:Nat}{w wr:World}{ao:Option Addr}{cap b off:Nat}{l:List Sig}(h:Gy w ao cap b off l)(hb:Below n₀ w wr)(hn:0<l.length->b<n₀):Gy wr ao cap b off l:=
 {h with
  nn:=fun j hj=>NQ hb (hn (by omega)) (h.nn j hj)
  ni:=fun j hj=>NQ hb (hn (by omega)) (h.ni j hj)
  nz:=fun j hj=>NQ hb (hn (by omega)) (h.nz j hj)}
def Cq(n:Nat):List (Fin n):=List.finRange n
theorem BN(n:Nat):(Cq n).length=n:=by simp[Cq]
theorem Ch{n k:Nat}(h:k<n):(Cq n).take (k+1)=(Cq n).take k++[⟨k,h⟩]:=by
 rw[List.take_succ_eq_append_getElem (by rw[BN];exact h)]
 congr 2
 simp[Cq]
def Hs(l:List Sig)(x:Fin l.length):Array Value:=#[.int .i64 ((x:Nat):Int),.int .i64 (Ar (l.take x))]
theorem KD(F:Fence)(n:Nat)(h7:F.fn 87)(hro:F.round=none)(hn:1<=n)(lY Bs n₀ b off cap:Nat)(ao:Option Addr)(l:List Sig)(hv:Ax l=true)(hb:b<n₀)(J Jx:List (Fin l.length)->World->Prop)
  (hY:∀pre x W,J pre W->pre.length<l.length->YieldAt F (n-1) Tryd.prog lY (Hs l x) W fun e W'=>
   (e=.returned (.bool true)/\J (pre++[x]) W'/\KpW n₀ Bs W W')\/(e=.returned (.bool false)/\Jx (pre++[x]) W'))
  (W:World) (hBs:W.cell? ⟨Bs,0,none⟩=some (.slice ao l.length cap)) (hl:Gy W ao cap b off l) (h0:J [] W):
  CallsIn F n Tryd.prog 87 #[.func (.yield lY) #[] #[],.pointer (some ⟨Bs,0,none⟩)] W fun e W'=>(∃v,e=.returned v)/\
   ((∃ys,ys=Cq l.length/\J ys W')\/(∃pre,(∃k,k<=l.length/\pre=(Cq l.length).take k)/\Jx pre W')):=by
 have hnb:=hl.nb;have hvx:=hv;simp only[Ax,Bool.and_eq_true,decide_eq_true_eq]at hvx;obtain⟨⟨⟨hl1,hl6⟩,hA⟩,hP⟩:=hvx;have HA:=Ab hA
 have h6i:(l.length:Int)<=6:=by omega
 clear hA hP hv;refine callsIn_of_wp Tryd.func87 rfl h7 ?_ hro;simp only[Tryd.ntmps87,List.size_toArray,List.length_cons,List.length_nil,Nat.reduceAdd,Nat.reduceSub,Array.replicate_succ,Array.replicate_zero,List.push_toArray,List.append_toArray,List.nil_append,List.cons_append]
 gi_wp2
 gi_loopw [3,7] (fun wt i wr=>∃k:Nat,k<=l.length/\i=.int .i64 k/\wt=.int .i64 (Ar (l.take k))/\J ((Cq l.length).take k) wr/\KpW n₀ Bs W wr)
  (fun _ i _=>l.length-(intOf i).toNat)
 case atStart=>exact⟨0,Nat.zero_le _,rfl,rfl,h0,KpW.refl _ _ _⟩
 case round=>
  obtain⟨k,hk,rfl,rfl,hJs,hnx⟩:=hrel
  by_cases hlt:k<l.length
  ·obtain⟨fn,tmps,assign,body,hy,hR⟩:=hY _ ⟨k,hlt⟩ wr hJs (by rw[List.length_take,BN];omega);dsimp only[Hs]at hy
   have hAk:Fh l k=true:=by
    rw[Fh,List.all_eq_true];intro j hj;exact List.all_eq_true.1 HA.out j (List.mem_range.2 (by have:=List.mem_range.1 hj;omega))
   have hsB:AV l[k]=true:=by
    have:=List.all_eq_true.1 HA.out k (List.mem_range.2 hlt);simp only[H7,Bool.and_eq_true]at this;have e:=this.1.2
    rwa [Ag _ _ _ hlt]at e
   obtain⟨⟨hp1,hp2⟩,hpw⟩:=IC hAk hlt hl6 hsB;simp only[AV,Bool.and_eq_true,decide_eq_true_eq]at hsB;obtain⟨hs1,hs2⟩:=hsB;have HPW:=Ab hpw;clear hpw hAk;generalize Ar (l.take k)=pr at*;obtain rfl:=hl.ad (by omega)
   gi_wp2
   refine hR.mono ?_;rintro e W3 (⟨rfl,hJ3,hk3⟩|⟨rfl,hJx3⟩)
   ·have hk4:=hnx.trans hk3;have hB3:W3.cell? ⟨Bs,0,none⟩=some (.slice (some ⟨b,off,none⟩) l.length cap):=(World.cell?_of_block (a:=⟨Bs,0,none⟩) hk4.2).trans hBs;have c2:=(hl.belowN hk4.1 (fun _=>hb)).nz k hlt;have hpw:=HPW.out
    gi_wp2
    go_roundw
    case rel=>exact⟨k+1,by omega,by go_num,by first|rw[HPW.out]|rfl,by rw[Ch hlt];exact hJ3,hk4⟩
    case measure=>simp[intOf];omega
   ·gi_wp2
    refine bodyPost_ret (results_none rfl _ _ _) rfl ?_;exact⟨⟨_,rfl⟩,.inr ⟨_,⟨k+1,by omega,(Ch hlt).symm⟩,hJx3⟩⟩
  ·obtain rfl:k=l.length:=by omega
   gi_wp2
   go_end0
   exact⟨⟨_,rfl⟩,.inl ⟨_,rfl,by rw[List.take_of_length_le (by rw[BN];exact Nat.le_refl _)]at hJs;exact hJs⟩⟩
theorem CY(w:World)(ao:Option Addr)(n cap:Nat):
  Calls Tryd.prog 77 #[.slice ao n cap] w fun e w'=>e=.returned (.func (.func 87) #[] #[.pointer (some ⟨w.heap.size,0,none⟩)])/\w'=w.alloc (.cells #[.slice ao n cap] 33):=by
 go_enter Tryd.func77,Tryd.ntmps77
 go_wp2;go_ret;exact⟨rfl,rfl⟩
theorem BL(F:Fence)(n:Nat)(h7:F.fn 87)(hro:F.round=none)(hn:1<=n)(Bs n₀ b off cap:Nat)(ao:Option Addr)(l:List Sig)(hv:Ax l=true)(hb:b<n₀)(w:World)(hBl:Bs<w.heap.size)(_:n₀<=w.heap.size)
  (hBs:w.cell? ⟨Bs,0,none⟩=some (.slice ao l.length cap)) (hl:Gy w ao cap b off l):
  SeqStopsK F n Tryd.prog 87 #[.pointer (some ⟨Bs,0,none⟩)] (Hs l) (KpW n₀ Bs) (fun ys=>ys=Cq l.length) (fun pre=>∃k,k<=l.length/\pre=(Cq l.length).take k) l.length w:=fun lY J Jx W hW _ _ hY h0=>
 KD F n h7 hro hn lY Bs n₀ b off cap ao l hv hb J Jx hY W ((hW.cell (p:=⟨Bs,0,none⟩) hBl).trans hBs) (hl.below hW) h0
def Na(s:Sig):Value:=.agg #[.string s.name,.bool s.inp,.int .i64 s.size]
theorem RV(W:World)(s:Sig):Calls Tryd.prog 65 #[Na s] W (AC (.bool true) W):=by
 unfold Na
 go_enter Tryd.func65,Tryd.ntmps65
 go_wp2;go_ret;exact⟨rfl,(by repeat(first|exact Ad|assumption|apply AF|apply AE))⟩
theorem RW(W:World)(s:Sig):Calls Tryd.prog 67 #[Na s] W (AC (.bool s.inp) W):=by
 unfold Na
 go_enter Tryd.func67,Tryd.ntmps67
 go_wp2;go_ret;exact⟨rfl,(by repeat(first|exact Ad|assumption|apply AF|apply AE))⟩
theorem RX(W:World)(s:Sig):Calls Tryd.prog 68 #[Na s] W (AC (.bool (!s.inp)) W):=by
 unfold Na
 go_enter Tryd.func68,Tryd.ntmps68
 go_wp2;go_ret;exact⟨rfl,(by repeat(first|exact Ad|assumption|apply AF|apply AE))⟩
def A8(ch:Sig->Bool):List Sig->Int
 |[]=>1
 |s::r=>if ch s then s.size*A8 ch r else A8 ch r
def Bi(ch:Sig->Bool)(l:List Sig)(pre:List (Fin l.length)):Int:=pre.foldl (fun p x=>if ch l[x]then p*l[x].size else p) 1
theorem CE(ch:Sig->Bool)(l:List Sig)(pre:List (Fin l.length))(x:Fin l.length):Bi ch l (pre++[x])=if ch l[x]then Bi ch l pre*l[x].size else Bi ch l pre:=by simp[Bi]
theorem He{ch:Sig->Bool}{l:List Sig}(h:∀s∈l,AV s=true)(pre:List (Fin l.length)):1<=Bi ch l pre/\Bi ch l pre<=4^pre.length:=by
 have key:∀(n:Nat)(pre:List (Fin l.length)),pre.length=n->1<=Bi ch l pre/\Bi ch l pre<=4^pre.length:=by
  intro n
  induction n with
  |zero=>intro pre hp;rw[List.eq_nil_of_length_eq_zero hp];simp[Bi]
  |succ n ih=>
   intro pre hp
   have hne:pre≠[]:=by intro e;rw[e]at hp;simp at hp
   rw[<-List.dropLast_concat_getLast hne];obtain⟨h1,h2⟩:=ih pre.dropLast (by simp[hp]);have hs:=h l[pre.getLast hne] (List.getElem_mem _);simp only[AV,Bool.and_eq_true,decide_eq_true_eq]at hs;rw[CE,List.length_append,List.length_singleton,Int.pow_succ]
   split
   ·refine⟨?_,Int.mul_le_mul h2 hs.2 (by omega) (by omega)⟩;have:=Int.mul_le_mul h1 (show(1:Int)<=l[pre.getLast hne].size by omega) (by omega) (by omega);omega
   ·omega
 exact key _ pre rfl
theorem Lh(ch:Sig->Bool)(l:List Sig)(k:Nat)(hk:k<=l.length):Bi ch l ((Cq l.length).take k)*A8 ch (l.drop k)=A8 ch l:=by
 induction k with
 |zero=>simp[Bi]
 |succ k ih=>
  have h:=ih (by omega);rw[DR l k (by omega)]at h;rw[Ch (by omega),CE,<-h];simp only[A8,Fin.getElem_fin]
  split
  ·rw[Int.mul_assoc]
  ·rfl
theorem Gi(ch:Sig->Bool)(l:List Sig):Bi ch l (Cq l.length)=A8 ch l:=by
 have:=Lh ch l l.length leR;rw[List.take_of_length_le (by rw[BN];exact Nat.le_refl _),List.drop_length,A8,Int.mul_one]at this;exact this
attribute [local go_sem] Oper.semAt_some
theorem Gj{p z:Int}(h1:1<=p)(h2:p<=4096)(h3:2<=z)(h4:z<=4):IntKind.i64.wrap (p*z)=p*z:=by
 refine IntWalk.i64_in _ ⟨?_, ?_⟩
 ·have:=Int.mul_nonneg (show 0<=p by omega) (show 0<=z by omega);omega
 ·have:=Int.mul_le_mul h2 h4 (by omega) (by omega);omega
theorem EY(w:World)(v:Value)(t:TypeId):(w.alloc (.cells #[v] t)).cell? ⟨w.heap.size,0,none⟩=some v:=cell_of_row _ _ 0 #[v] t (0,0) (heap_alloc_new _ _)
theorem Rh(w:World)(v:Value)(t:TypeId):(w.alloc (.cells #[v] t)).frozen? ⟨w.heap.size,0,none⟩=false:=Aw 0 (heap_alloc_new _ _)
theorem Dw{B:Nat}{W W':World}(h:Below W.heap.size W W'):KeepsFrom B W W':=⟨h.size,fun i _ _ hi _=>(h.block i (ltE hi)).trans hi⟩
def CM(w:World)(vs vf:Value)(p:Int)(W:World):Prop:=
 W.cell? ⟨w.heap.size+2,0,none⟩=some (.int .i64 p)/\W.frozen? ⟨w.heap.size+2,0,none⟩=false/\W.cell? ⟨w.heap.size,0,none⟩=some vs/\W.cell? ⟨w.heap.size+1,0,none⟩=some vf/\W.cell? ⟨w.heap.size+3,0,none⟩=some vs
theorem Fl(w:World)(vs vf:Value){α:Type}(f:α->Int)(B:Nat):OwnFrom B (fun(s:α)W=>CM w vs vf (f s) W):=
 Own.from (fun _ _ _ _ hs hg hr=>⟨cell_kept hs.1 hg hr,(frozen_kept hs.1 hg hr).trans hs.2.1,cell_kept hs.2.2.1 hg hr,cell_kept hs.2.2.2.1 hg hr,cell_kept hs.2.2.2.2 hg hr⟩) _
theorem CM.below{w W W3:World}{vs vf:Value}{p:Int}(h:CM w vs vf p W)(hb:Below W.heap.size W W3):CM w vs vf p W3:=
 ⟨Aj hb h.1,(hb.frozen (p:=⟨w.heap.size+2,0,none⟩) (World.block_lt_of_cell? W _ h.1)).trans h.2.1,Aj hb h.2.2.1,Aj hb h.2.2.2.1,Aj hb h.2.2.2.2⟩
theorem Ea{W:World}{a b:Nat}{u v:Value}(h:W.cell? ⟨a,0,none⟩=some v)(hne:a≠b):(W.setCell ⟨b,0,none⟩ u).cell? ⟨a,0,none⟩=some v:=
 (World.cell?_of_block (a:=⟨a,0,none⟩) (heap_setCell_other W ⟨b,0,none⟩ a u hne)).trans h
theorem CM.set{w W:World}{vs vf:Value}{p:Int}(h:CM w vs vf p W)(q:Int):CM w vs vf q (W.setCell ⟨w.heap.size+2,0,none⟩ (.int .i64 q)):=
 ⟨World.cell?_setCell_same' _ _ _ (by rw[h.1];rfl),by rw[World.frozen?_setCell];exact h.2.1,Ea h.2.2.1 (by omega),Ea h.2.2.2.1 (by omega),Ea h.2.2.2.2 (by omega)⟩
theorem Ex{B:Nat}{w W W3:World}{vs vf:Value}{p q:Int}(h:CM w vs vf p W)(hB:Below w.heap.size w W)(hb:Below W.heap.size W W3):
  KeepsFrom B W (W3.setCell ⟨w.heap.size+2,0,none⟩ (.int .i64 q)).drew/\KpW w.heap.size (w.heap.size+3) W (W3.setCell ⟨w.heap.size+2,0,none⟩ (.int .i64 q)).drew/\
   CM w vs vf q (W3.setCell ⟨w.heap.size+2,0,none⟩ (.int .i64 q)).drew/\Below w.heap.size w (W3.setCell ⟨w.heap.size+2,0,none⟩ (.int .i64 q)).drew:=by
 have h3:=(h.below hb).set q;have hb2:Below w.heap.size W (W3.setCell ⟨w.heap.size+2,0,none⟩ (.int .i64 q)).drew:=((hb.mono hB.size).setCell (p:=⟨w.heap.size+2,0,none⟩) (by simp) _).trans (Below.drew Ad);refine⟨((Dw hb).trans ((KeepsOthers.setCell _ _ _).from _)).trans ((KeepsOthers.drew _).from _),⟨hb2, ?_⟩,h3,hB.trans hb2⟩;show(W3.setCell ⟨w.heap.size+2,0,none⟩ (.int .i64 q)).heap[w.heap.size+3]? =_;rw[heap_setCell_other W3 ⟨w.heap.size+2,0,none⟩ (w.heap.size+3) _ (by simp)];exact hb.block _ (World.block_lt_of_cell? W _ h.2.2.2.2)
theorem G2{B:Nat}{w W W3:World}{vs vf:Value}{p:Int}(h:CM w vs vf p W)(hB:Below w.heap.size w W)(hb:Below W.heap.size W W3):
  KeepsFrom B W W3/\KpW w.heap.size (w.heap.size+3) W W3/\CM w vs vf p W3/\Below w.heap.size w W3:=
 ⟨Dw hb,⟨hb.mono hB.size,hb.block _ (World.block_lt_of_cell? W _ h.2.2.2.2)⟩,h.below hb,hB.trans (hb.mono hB.size)⟩
theorem NT(w:World)(vl:Value)(l:List Sig)(hK:Bt w)(hl:AJ w vl l):
  Calls Tryd.prog 64 #[vl,.func (.func 65) #[] #[]] w (AC (.int .i64 (if Ax l then A8 (fun _=>true) l else 0)) w):=by
 have hlx:=hl;obtain⟨ao,cap,b,off,rfl,hl⟩:=hl;have hn:=hl.nb
 cases hv:Ax l
 ·go_enter Tryd.func64,Tryd.ntmps64
  go_wp2_with fail
  refine(Cf _ _ l (hK.below (by repeat(first|exact Ad|assumption|apply AF|apply AE))) (hlx.below (by repeat(first|exact Ad|assumption|apply AF|apply AE)))).mono ?_;rintro e w1 ⟨rfl,n,rfl⟩;rw[hv];go_wp2;go_ret;exact⟨rfl,AE (by repeat(first|exact Ad|assumption|apply AF|apply AE)) _⟩
 have hV:Hid (∀W,Below w.heap.size w W->Calls Tryd.prog 22 #[.slice ao l.length cap] W (Dt (.bool true) W)):=fun W hW=>by
  have:=Cf W _ l (hK.below hW) (hlx.below hW)
  rwa [hv]at this
 refine callsIn_wide (n:=5)|>.1 ?_;refine callsIn_of_wp_marks Tryd.func64 rfl trivial ?_;simp only[Tryd.ntmps64,List.size_toArray,List.length_cons,List.length_nil,Nat.reduceAdd,Nat.reduceSub,Array.replicate_succ,Array.replicate_zero,List.push_toArray,List.append_toArray,List.nil_append,List.cons_append]
 gi_wp2_with fail
 refine⟨trivial, ?_⟩;refine(callsIn_wide.2 (hV.out _ (by repeat(first|exact Ad|assumption|apply AF|apply AE)))).mono ?_;rintro e w1 ⟨rfl,n1,hw1⟩
 have hB1:Below w.heap.size w w1:=by rw[hw1];exact AE (by repeat(first|exact Ad|assumption|apply AF|apply AE)) _
 have hz1:w1.heap.size=w.heap.size+2:=by rw[hw1];simp[World.drewN]
 have c0:w1.cell? ⟨w.heap.size,0,none⟩=some (.slice ao l.length cap):=by rw[hw1];exact NP n1 (Aj (Ap _) (EY w _ _))
 have c1:w1.cell? ⟨w.heap.size+1,0,none⟩=some (.func (.func 65) #[] #[]):=by rw[hw1];have:=EY (w.alloc (.cells #[.slice ao l.length cap] 33)) (.func (.func 65) #[] #[]) 124;rwa [World.size_alloc]at this
 clear hw1
 gi_wp2_with fail
 refine⟨trivial, ?_⟩;refine(callsIn_wide.2 (CY _ _ _ _)).mono ?_;rintro e w2 ⟨rfl,hw2⟩
 gi_wp2_with fail
 rw[<-hw2]
 have hB2:Below w.heap.size w w2:=by rw[hw2];exact hB1.trans ((((Below.refl _ w1).alloc leR _).alloc (by simp) _).mono (by omega))
 have hz2:w2.heap.size=w.heap.size+4:=by rw[hw2];simp[hz1]
 have e0:w2.cell? ⟨w.heap.size,0,none⟩=some (.slice ao l.length cap):=by rw[hw2];exact Aj (Ap _) (Aj (Ap _) c0)
 have e1:w2.cell? ⟨w.heap.size+1,0,none⟩=some (.func (.func 65) #[] #[]):=by rw[hw2];exact Aj (Ap _) (Aj (Ap _) c1)
 have en:=EY w1 (.int .i64 1) 3
 have e2:w2.cell? ⟨w.heap.size+2,0,none⟩=some (.int .i64 1):=by rw[hw2,<-hz1];exact Aj (Ap _) en
 have f2:w2.frozen? ⟨w.heap.size+2,0,none⟩=false:=by rw[hw2,<-hz1];exact((Ap _).frozen (p:=⟨w1.heap.size,0,none⟩) (by simp)).trans (Rh w1 _ _)
 have e3:w2.cell? ⟨w.heap.size+3,0,none⟩=some (.slice ao l.length cap):=by
  have:=EY (w1.alloc (.cells #[.int .i64 1] 3)) (.slice ao l.length cap) 33;rw[World.size_alloc,hz1]at this;rw[hw2];exact this
 have hvx:=hv;simp only[Ax,Bool.and_eq_true,decide_eq_true_eq]at hvx;obtain⟨⟨⟨hl1,hl6⟩,hA⟩,-⟩:=hvx
 have hsz:∀s∈l,AV s=true:=fun s hs=>Et hA leR s (by rwa [List.take_length])
 have hb:b<w.heap.size:=by
  have:=World.block_lt_of_cell? w _ (hl.nn 0 (by omega));exact this
 have hmx:Tryd.prog.follows .mixedOrders=true:=by kernel_rfl
 clear hA c0 c1 en hw2 hB1 hz1
 refine wpIn_rangeFunc_ownG rfl (by omega) (gf:=87) (lb:=#[.pointer (some ⟨w.heap.size+2+1,0,none⟩)]) rfl trivial (enters_of Tryd.func87 (by kernel_rfl) rfl)
  (BL Fence.wide (5-1) trivial rfl (by omega) (w.heap.size+3) w.heap.size b off cap ao l hv hb w2 (by omega) (by omega) e3 (hl.below hB2)) KpW.trans (KpW.put (by omega) (by omega)) Ad (fun _=>rfl)
  (fun pre W=>CM w (.slice ao l.length cap) (.func (.func 65) #[] #[]) (Bi (fun _=>true) l pre) W/\Below w.heap.size w W)
  (fun _ _ _=>False)
  (OwnFrom.and (Fl w _ _ (Bi (fun _=>true) l) _) (ownFrom_below leR (by omega)))
  (fun _ _ _ _ _ hs _ _=>hs)
  ⟨⟨e2,f2,e0,e1,e3⟩,hB2⟩
  (fun x=>{tmps:=#[.slice ao l.length cap,.func (.func 65) #[] #[],.pointer (some ⟨w.heap.size,0,none⟩),.pointer (some ⟨w.heap.size+1,0,none⟩),.int .i64 0,.pointer (some ⟨w.heap.size+2,0,none⟩),.int .i64 ((x:Nat):Int),.slice ao l.length cap,.bool true,.bool false,.slice ao l.length cap,.func (.func 87) #[] #[.pointer (some ⟨w.heap.size+2+1,0,none⟩)],.int .i64 ((x:Nat):Int),.int .i64 (Ar (l.take x)),undef,undef,undef,undef,undef,undef,undef,undef,undef,undef,undef,undef,undef,undef],defers:=[]}) ?assign ?body ?done ?stop
 case assign=>
  intro lY x W K hK;unfold Hs
  gi_wp2
  exact hK
 case body=>
  rintro lY pre x W ⟨hI,hB⟩ hpl;obtain⟨q2,g2,q0,q1,-⟩:=id hI
  have hd:1<=5-1-1:=by omega
  have hlW:=hl.below hB;obtain⟨x,hx⟩:=x;have n0:=hlW.nn x hx;have n1:=hlW.ni x hx;have n2:=hlW.nz x hx;obtain rfl:=hl.ad (by omega)
  have hch:∀W:World,Calls Tryd.prog 65 #[.agg #[.string l[x].name,.bool l[x].inp,.int .i64 l[x].size]] W (AC (.bool true) W):=fun W=>RV W l[x]
  have HCH:=Ab hch;clear hch hlx hK hV hn
  gi_upto_region 6 with(fail)
  gi_cut [19]from 14 (fun v wx=>∃W3:World,W3=wx/\v=.bool true/\Below W.heap.size W W3)
  case first=>
   gi_region_with_o (refine⟨trivial, ?_⟩;gi_at_call 65;refine(CallsIn.inRound lY (callsIn_wide.2 (HCH.out _))).mono ?_;rintro e W3 ⟨rfl,hb3⟩)
   all_goals gi_wp2_with fail
   all_goals
    gi_meet
    case rel=>exact⟨_,rfl,rfl,(Below.drew Ad).trans hb3⟩
  case rest=>
   obtain⟨W3,rfl,rfl,hb3⟩:=hcut;have hsx:=hsz _ (List.getElem_mem hx);obtain⟨hp1,hp2⟩:=He (ch:=fun _=>true) hsz pre;have hp3:Bi (fun _=>true) l pre<=4096:=Int.le_trans hp2 (Lc (by omega));simp only[AV,Bool.and_eq_true,decide_eq_true_eq]at hsx;obtain⟨hs1,hs2⟩:=hsx;have hpw:=Gj hp1 hp3 hs1 hs2;have HSN:Hid (Bi (fun _=>true) l (pre++[⟨x,hx⟩])=Bi (fun _=>true) l pre*l[x].size):=CE _ _ _ _;have r2:=Aj hb3 q2;have r0:=Aj hb3 q0;have m2:=Aj hb3 n2;have g3:W3.frozen? ⟨w.heap.size+2,0,none⟩=false:=(hb3.frozen (p:=⟨w.heap.size+2,0,none⟩) (World.block_lt_of_cell? W _ q2)).trans g2;have r1:=Aj hb3 q1;have HI:=Ab hI;clear q2 q0 q1 n0 n1 n2 g2 e0 e1 e2 e3 f2 HCH hp2 hlW hI;generalize Bi (fun _=>true) l pre=pp at*
   gi_wp2
   gi_region_with_o (fail)
   all_goals gi_wp2
   all_goals
    have hr:=Ex (B:=w2.heap.size) (q:=pp*l[x].size) HI.out hB hb3;exact⟨hr.1,hr.2.1,by rw[HSN.out];exact hr.2.2.1,hr.2.2.2⟩
 case done=>
  rintro D ys W hD rfl ⟨⟨q2,g2,q0,q1,-⟩,hB⟩ hK
  gi_wp2
  refine⟨by simp,.inl ⟨_,_,rfl,run_takeDeferred hK, ?_⟩⟩;exact⟨_,results_tmp rfl _ _ _,by simp[Gi],hB.trans (belowK_b (w:=w) leR W D _ _ (by omega) hK rfl rfl)⟩
 case stop=>
  rintro D c pre W _ _ h _;exact h.elim
theorem Lf(ch:Sig->Bool)(l:List Sig)(s:Sig):A8 ch (l++[s])=if ch s then A8 ch l*s.size else A8 ch l:=by
 induction l with
 |nil=>simp only[List.nil_append,A8];split<;>simp
 |cons a l ih=>
  simp only[List.cons_append,A8,ih]
  split<;>split<;>simp[Int.mul_assoc]
theorem Hd{ch:Sig->Bool}{l:List Sig}{k:Nat}(h:k<l.length):A8 ch (l.take (k+1))=if ch l[k]then A8 ch (l.take k)*l[k].size else A8 ch (l.take k):=by
 rw[List.take_succ_eq_append_getElem h,Lf]
theorem ON(ch:Sig->Bool)(l:List Sig)(h:∀s∈l,AV s=true):1<=A8 ch l/\A8 ch l<=4^l.length:=by
 induction l with
 |nil=>simp[A8]
 |cons a l ih=>
  obtain⟨h1,h2⟩:=ih (fun s hs=>h s (List.mem_cons_of_mem _ hs));have ha:=h a List.mem_cons_self;simp only[AV,Bool.and_eq_true,decide_eq_true_eq]at ha;rw[A8,List.length_cons,Int.pow_succ];have h3:=Int.mul_le_mul ha.2 h2 (by omega) (by omega);have h4:=Int.mul_le_mul (show(1:Int)<=a.size by omega) h1 (by omega) (by omega);have h5:(4:Int)*4^l.length=4^l.length*4:=Int.mul_comm _ _
  split<;>omega
theorem Ld(l:List Sig):A8 (fun s=>s.inp) l*A8 (fun s=> !s.inp) l=Ar l:=by
 induction l with
 |nil=>rfl
 |cons a l ih=>
  simp only[A8,Ar,<-ih]
  rcases Bool.eq_false_or_eq_true a.inp with h|h
  ·rw[if_pos h,if_neg (by rw[h];simp),Int.mul_assoc]
  ·rw[if_neg (by rw[h];simp),if_pos (by rw[h];rfl),Int.mul_left_comm]
theorem Lg(l:List Sig):A8 (fun _=>true) l=Ar l:=by
 induction l with
 |nil=>rfl
 |cons a l ih=>simp[A8,Ar,ih]
theorem Lj{p z:Int}(h1:1<=p)(h2:p<=4096)(h3:2<=z)(h4:z<=4):IntKind.i64.wrap (p*z)=p*z:=by
 refine IntWalk.i64_in _ ⟨?_, ?_⟩
 ·have:=Int.mul_nonneg (show 0<=p by omega) (show 0<=z by omega);omega
 ·have:=Int.mul_le_mul h2 h4 (by omega) (by omega);omega
def IN(l:List Sig)(b:Bool):Int:=if Ax l then A8 (fun s=>s.inp==b) l else 0
theorem Ba{l:List Sig}(h:Ax l=true):(∀s∈l,AV s=true)/\1<=l.length/\l.length<=6/\Ar l<=64:=by
 simp only[Ax,Bool.and_eq_true,decide_eq_true_eq]at h;exact⟨fun s hs=>Et h.1.2 leR s (by rwa [List.take_length]),h.1.1.1,h.1.1.2,h.2⟩
end Go.Proofs.YtncjeamdkjcebaaDoor
