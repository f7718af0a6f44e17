/- Games: the two Valid, Small, Swap; rows of one's own; slices: Clone, Concat, Ints. -/
import Derived.Lib.AppendZeros
import Derived.RegionIn
import Derived.Test.YtncjeamdkjcebaaGreatDoorZArCb
set_option linter.all false
set_option maxHeartbeats 2000000
namespace Go.Proofs.YtncjeamdkjcebaaGreatDoor
open Go.RowKit
open Go Go.RowKit
theorem Sep.sub{l l':List Value}(h:Sep l)(hs:l'.Sublist l):Sep l':=h.sublist hs
section
variable {w w':World} {B z:Nat} {v0 v1 v2:Value} {vals others:List Value} {gm:Gm}
theorem GB.drop{u:Value}(h:GB w B z v0 v1 v2 vals gm (u::others)):GB w B z v0 v1 v2 vals gm others:=
 {h with
  sep:=h.sep.sub (by simp)
  lt:=fun x hx=>h.lt x (List.mem_cons_of_mem _ hx)}
end
end Go.Proofs.YtncjeamdkjcebaaGreatDoor
namespace Go.Proofs.YtncjeamdkjcebaaGreatDoor
open Go.RowKit
def So(l:List Int)(x:Int)(w:World)(e:Ending)(w':World):Prop:=∃r:Int,e=.returned (.int .i64 r)/\I64 r/\(0<=r↔x∈l)/\∃n,w'=w.drewN n
theorem I7(l:List Int)(x:Int)(k:Nat)(h:k<l.length)(h1:x∉l.take k)(h2:(x==l[k])=false):x∉l.take (k+1):=by
 rw[List.take_succ_eq_append_getElem h,List.mem_append,List.mem_singleton];rintro(h|rfl)
 ·exact h1 h
 ·simp at h2
theorem QZ(w:World)(v:Value)(l:List Int)(x:Int)(h:Ai w v l):
  Calls Tryz.prog 133 #[v,.int .i64 x] w (So l x w):=by
 obtain⟨⟨ao,cap,b,off,rfl,g⟩,_⟩:=h;have hn:=g.nb
 go_enter Tryz.func133,Tryz.ntmps133
 go_wp2
 go_loop [4,5,8] (fun r _ i=>∃k:Nat,i=.int .i64 k/\r=.int .i64 0/\k<=l.length/\x∉l.take k) (fun _ _ i=>l.length-(intOf i).toNat)
 case atStart=>exact⟨0,rfl,rfl,by omega,by simp⟩
 case round=>
  obtain⟨k,rfl,rfl,hk,heq⟩:=hrel;have HE:=Ab heq;clear heq
  by_cases hlt:k<l.length
  ·obtain rfl:=g.ad (by omega);have c2:=g.el k hlt;unfold ivF at c2;rw[Af _ _ _ hlt]at c2
   cases hq:(x==l[k])
   ·go_wp2
    go_round
    case rel=>exact⟨k+1,by go_num,rfl,by omega,I7 l x k hlt HE.out hq⟩
    case measure=>simp[intOf];omega
   ·go_wp2;go_ret;refine⟨_,rfl,by unfold I64;omega,⟨fun _=> ?_,fun _=>by omega⟩,0,rfl⟩
    have:x=l[k]:=by simpa using hq
    rw[this];exact List.getElem_mem hlt
  ·go_wp2;go_ret;refine⟨_,rfl,by unfold I64;omega,⟨fun h=>by omega,fun hm=> ?_⟩,0,rfl⟩;have h3:=HE.out;rw[List.take_of_length_le (by omega)]at h3;exact absurd hm h3
theorem FK(w:World)(v:Value)(l:List Int)(x:Int)(h:Ai w v l):
  Calls Tryz.prog 119 #[v,.int .i64 x] w (DL (.bool (decide (x∈l))) w):=by
 go_enter Tryz.func119,Tryz.ntmps119
 go_wp2_with fail
 refine(QZ _ _ l x h).mono ?_;rintro e w1 ⟨r,rfl,hr,hrl,n,rfl⟩;go_wp2;go_ret;refine⟨Ak ?_,n,rfl⟩;simp
theorem Bj.shape{w:World}{v:Value}{l:List Bool}(h:Bj w v l):∃a c,v=.slice a l.length c:=by
 obtain⟨a,c,b,o,rfl,-⟩:=h;exact⟨a,c,rfl⟩
theorem Ai.shape{w:World}{v:Value}{l:List Int}(h:Ai w v l):∃a c,v=.slice a l.length c:=by
 obtain⟨⟨a,c,b,o,rfl,-⟩,-⟩:=h;exact⟨a,c,rfl⟩
theorem Bj.data{w:World}{a:Option Addr}{n c:Nat}{l:List Bool}(h:Bj w (.slice a n c) l):∃b o,(0<n->a=some ⟨b,o,none⟩)/\n<=140737488351232/\∀j,j<n->w.cell? ⟨b,o+j,none⟩=some (.bool (l.getD j false)):=by
 obtain⟨a',c',b,o,hv,ha⟩:=h
 injection hv with h1 h2 h3
 subst h1 h2 h3;exact⟨b,o,fun h=>ha.ad h,ha.nb,fun j hj=>ha.el j hj⟩
theorem Ai.data{w:World}{a:Option Addr}{n c:Nat}{l:List Int}(h:Ai w (.slice a n c) l):∃b o,(0<n->a=some ⟨b,o,none⟩)/\n<=140737488351232/\∀j,j<n->w.cell? ⟨b,o+j,none⟩=some (.int .i64 (l.getD j 0)):=by
 obtain⟨⟨a',c',b,o,hv,ha⟩,-⟩:=h
 injection hv with h1 h2 h3
 subst h1 h2 h3;exact⟨b,o,fun h=>ha.ad h,ha.nb,fun j hj=>ha.el j hj⟩
theorem Ar.data{w:World}{v:Value}{ll:List (List Int)}(h:Ar w v ll):∃a c b o,∃V:Nat->Value,v=.slice a ll.length c/\(0<ll.length->a=some ⟨b,o,none⟩)/\ll.length<=140737488351232/\∀j,j<ll.length->w.cell? ⟨b,o+j,none⟩=some (V j)/\Ai w (V j) (ll.getD j []):=by
 obtain⟨V,⟨a,c,b,o,rfl,ha⟩,hr⟩:=h;exact⟨a,c,b,o,V,rfl,fun h=>ha.ad h,ha.nb,fun j hj=>⟨ha.el j hj,hr j hj⟩⟩
theorem Qa(W:World)(c x:Nat)(vs:Value)(set:List Bool)(hc:W.cell? ⟨c,0,none⟩=some vs)(hs:Bj W vs set)(hx:x<set.length):
  Calls Tryz.prog 129 #[.int .i64 (x:Int),.pointer (some ⟨c,0,none⟩)] W (DL (.bool (!set.getD x false)) W):=by
 obtain⟨a,cp,rfl⟩:=hs.shape;obtain⟨b,o,ha,hm,hd⟩:=hs.data;obtain rfl:=ha (by omega);have e1:=hd x hx;clear hs ha hd;generalize set.getD x false=y at*
 go_enter Tryz.func129,Tryz.ntmps129
 go_wp2;go_ret;exact⟨rfl,0,rfl⟩
def Th(p:Int->Bool)(l:List Int)(w:World)(e:Ending)(w':World):Prop:=∃r:Int,e=.returned (.int .i64 r)/\I64 r/\(0<=r↔∃x∈l,p x=true)/\∃n,w'=w.drewN n
theorem KA(w:World)(vl vs:Value)(l:List Int)(c:Nat)(set:List Bool)(hl:Ai w vl l)(hc:w.cell? ⟨c,0,none⟩=some vs)(hs:Bj w vs set)(hx:∀x∈l,0<=x/\x<set.length):
  Calls Tryz.prog 134 #[vl,.func (.func 129) #[] #[.pointer (some ⟨c,0,none⟩)]] w (Th (fun x=> !set.getD x.toNat false) l w):=by
 obtain⟨ao,cap,rfl⟩:=hl.shape;obtain⟨b,o,had,hm,hd⟩:=hl.data;have HD:=Ab hd;have HX:=Ab hx
 have HF:Hid (∀(n x:Nat),x<set.length->Calls Tryz.prog 129 #[.int .i64 (x:Int),.pointer (some ⟨c,0,none⟩)] (w.drewN n) (DL (.bool (!set.getD x false)) (w.drewN n))):=
  fun n x h=>Qa _ c x vs set hc (hs.below (Am _ _ _)) h
 clear hd hx hl hc hs
 go_enter Tryz.func134,Tryz.ntmps134
 go_wp2
 go_loopg [4,5,8] l.length (fun gh r _ i wr=>∃k n:Nat,gh=l.length-k/\i=.int .i64 k/\r=.int .i64 0/\k<=l.length/\wr=w.drewN n/\Hid (∀x∈l.take k,set.getD x.toNat false=true))
 case atStart=>exact⟨0,0,rfl,rfl,rfl,by omega,rfl,by simp[Hid]⟩
 case round=>
  obtain⟨k,n,hgk,rfl,rfl,hk,rfl,HE⟩:=hrel;have HG:=Ab hgk;clear hgk
  by_cases hlt:k<l.length
  ·obtain rfl:=had (by omega);have c2:(w.drewN n).cell? ⟨b,o+k,none⟩=_:=HD.out k hlt;obtain⟨x0,x1⟩:=HX.out (l.getD k 0) (by rw[Af _ _ _ hlt];exact List.getElem_mem hlt)
   have HY:Hid (l.take (k+1)=l.take k++[l.getD k 0]):=by show _=_;rw[List.take_succ_eq_append_getElem hlt,Af _ _ _ hlt]
   have HM:Hid (l.getD k 0∈l):=by show _∈_;rw[Af _ _ _ hlt];exact List.getElem_mem hlt
   generalize l.getD k 0=x at*;obtain⟨y,rfl⟩:=Int.eq_ofNat_of_zero_le x0
   have hy:y<set.length:=by omega
   clear x0 x1
   go_wp2_with fail
   refine(HF.out n y hy).mono ?_;rintro e w1 ⟨rfl,m,rfl⟩
   cases hq:set.getD y false
   ·go_wp2;go_ret;refine⟨_,rfl,by unfold I64;omega,⟨fun _=>⟨_,HM.out, ?_⟩,fun _=>by omega⟩,_,rfl⟩;show(!set.getD (y:Int).toNat false)=true;rw[Int.toNat_natCast,hq];rfl
   ·go_wp2
    go_roundg (l.length-(k+1))
    case measure=>have:=HG.out;omega
    case rel=>
     refine⟨k+1,_,rfl,by go_num,rfl,by omega,rfl, ?_⟩;intro x hx;rw[HY.out]at hx
     rcases List.mem_append.1 hx with h|h
     ·exact HE.out x h
     ·rw[List.mem_singleton.1 h,Int.toNat_natCast,hq]
  ·go_wp2;go_ret;refine⟨_,rfl,by unfold I64;omega,⟨fun h=>by omega,fun⟨x,hx,hp⟩=> ?_⟩,n,rfl⟩;have h3:=HE.out;rw[List.take_of_length_le (by omega)]at h3;have hp':(!set.getD x.toNat false)=true:=hp;rw[h3 x hx]at hp';cases hp'
theorem H7(w:World)(vl vs:Value)(l:List Int)(c:Nat)(set:List Bool)(hl:Ai w vl l)(hc:w.cell? ⟨c,0,none⟩=some vs)(hs:Bj w vs set)(hx:∀x∈l,0<=x/\x<set.length):
  Calls Tryz.prog 130 #[vl,.func (.func 129) #[] #[.pointer (some ⟨c,0,none⟩)]] w (DL (.bool (!l.all fun x=>set.getD x.toNat false)) w):=by
 go_enter Tryz.func130,Tryz.ntmps130
 go_wp2_with fail
 refine(KA _ _ _ l c set hl hc hs hx).mono ?_;rintro e w1 ⟨r,rfl,hr,hrl,n,rfl⟩;have HRL:=Ab hrl;clear hrl;go_wp2;go_ret;refine⟨Ak ?_,n,rfl⟩;rw[Bool.eq_iff_iff];have h:=HRL.out;simp[h]
def Du(g:Gm)(p:Int)(set:List Bool)(s:List Int)(v:Nat):Bool:=
 if set.getD v false then
  if g.owner.getD v 0=p then decide (s.getD v 0∈g.succ.getD v [])&&set.getD (s.getD v 0).toNat false
  else s.getD v 0==-1&&(g.succ.getD v []).all (fun x=>set.getD x.toNat false)
 else s.getD v 0==-1
theorem RC(w:World)(vg vs vt:Value)(g:Gm)(p:Int)(set:List Bool)(s:List Int)(v:Nat)(hg:Cn w vg g)(hs:Bj w vs set)(ht:Ai w vt s)(hv:B9 g=true)(h1:set.length=g.owner.length)(h2:s.length=g.owner.length)(hlt:v<g.owner.length):
  Calls Tryz.prog 116 #[vg,.int .i64 p,vs,vt,.int .i64 v] w (Av (.bool (Du g p set s v)) w):=by
 have hval:=GH hv v hlt;obtain⟨l1,l2,l3⟩:=DV hv;obtain⟨v0,v1,v2,rfl,i0,i1,i2⟩:=id hg;obtain⟨a0,c0,rfl⟩:=i0.shape;obtain⟨a1,c1,rfl⟩:=i1.shape;obtain⟨a2,c2,b2,o2,V,rfl,hd2,m2,dd2⟩:=i2.data;obtain⟨b0,o0,hd0,m0,dd0⟩:=i0.data;obtain⟨aS,cS,rfl⟩:=hs.shape;obtain⟨aT,cT,rfl⟩:=ht.shape;obtain⟨bS,oS,hdS,mS,ddS⟩:=hs.data;obtain⟨bT,oT,hdT,mT,ddT⟩:=ht.data;obtain rfl:=hd0 (by omega);obtain rfl:=hd2 (by omega);obtain rfl:=hdS (by omega);obtain rfl:=hdT (by omega);have hB:Below w.heap.size w ((w.alloc (.cells #[.slice (some ⟨b0,o0,none⟩) g.owner.length c0,.slice a1 g.prio.length c1,.slice (some ⟨b2,o2,none⟩) g.succ.length c2] 65)).alloc (.cells #[.slice (some ⟨bS,oS,none⟩) set.length cS] 31)):=(by repeat(first|exact Ad|assumption|apply AD|apply AE));have e0:=Ah hB (dd0 v hlt);have e2:=Ah hB (dd2 v (by omega)).1;have i2v:=(dd2 v (by omega)).2;have eS:=Ah hB (ddS v (by omega));have eT:=Ah hB (ddT v (by omega));obtain⟨aV,cV,hVv⟩:=i2v.shape;rw[hVv]at e2 i2v;have hbx:=heap_alloc_new (w.alloc (.cells #[.slice (some ⟨b0,o0,none⟩) g.owner.length c0,.slice a1 g.prio.length c1,.slice (some ⟨b2,o2,none⟩) g.succ.length c2] 65)) (.cells #[.slice (some ⟨bS,oS,none⟩) set.length cS] 31);rw[World.size_alloc]at hbx;have HBX:=Ab (Aa 0 hbx);clear hbx;have HSS:=Ab (fun y(h:y<set.length)=>Ah hB (ddS y h));have HSb:=Ab hs;have HIv:=Ab i2v;have HK:Hid (Du g p set s v=if set.getD v false then(if g.owner.getD v 0=p then decide (s.getD v 0∈g.succ.getD v [])&&set.getD (s.getD v 0).toNat false else s.getD v 0==-1&&(g.succ.getD v []).all (fun x=>set.getD x.toNat false))else s.getD v 0==-1):=rfl;have HR:=Ab hval.2.2.2
 have hsn:s.length=set.length:=by omega
 have hon:g.owner.length=set.length:=by omega
 have hln:g.succ.length=set.length:=by omega
 have hx64:I64 (s.getD v 0):=ht.2 _ (by rw[Af _ _ _ (show v<s.length by omega)];exact List.getElem_mem _);have HL:=Ab (show set.length=g.owner.length from h1)
 have k1:v<set.length:=by omega
 have k2:v<s.length:=by omega
 have k3:v<g.succ.length:=by omega
 have k4:(v:Int)<set.length:=by omega
 have k5:(v:Int)<s.length:=by omega
 have k6:(v:Int)<g.succ.length:=by omega
 have k7:(v:Int)<g.owner.length:=by omega
 clear hval dd0 dd2 ddS ddT hd0 hd2 hdS hdT i0 i1 i2 hg hs ht hB hVv l2 l3 h1 h2 i2v hsn hon hln;generalize hxe:s.getD v 0=x at*;have HX:=Ab hxe;clear hxe;generalize g.owner.getD v 0=ow at*;generalize g.succ.getD v []=sv at*;have hvl:set.length<=140737488351232:=mS
 cases hq:set.getD v false
 ·rw[hq]at eS HK
  go_enter Tryz.func116,Tryz.ntmps116
  go_wp2;go_ret;refine⟨Ak ?_,(by repeat(first|exact Ad|assumption|apply AD|apply AE))⟩;rw[HK.out];rfl
 ·rw[hq]at eS HK
  cases ho:(ow==p)
  ·have hop:¬ow=p:=by simpa using ho
   rw[if_neg hop]at HK
   go_enter Tryz.func116,Tryz.ntmps116
   cases hx1:(x==-1)
   ·go_wp2;go_ret;refine⟨Ak ?_,(by repeat(first|exact Ad|assumption|(refine AD ?_ _)|(refine AE ?_ _)|(refine Below.drew ?_)))⟩;rw[HK.out,hx1];rfl
   ·go_wp2_with fail
    refine(H7 _ _ _ sv (w.heap.size+1) set (HIv.out.below (by repeat(first|exact Ad|assumption|(refine AD ?_ _)|(refine AE ?_ _)|(refine Below.drew ?_)))) ?_ (HSb.out.below (by repeat(first|exact Ad|assumption|(refine AD ?_ _)|(refine AE ?_ _)|(refine Below.drew ?_)))) (fun y hy=>by have:=HR.out y hy;have:=HL.out;omega)).mono ?_
    ·exact HBX.out
    rintro e w1 ⟨rfl,n,rfl⟩;go_wp2;go_ret;refine⟨Ak ?_,(by repeat(first|exact Ad|assumption|(refine AD ?_ _)|(refine AE ?_ _)|(refine Below.drew ?_)))⟩;rw[HK.out,hx1];simp
  ·have hop:ow=p:=by simpa using ho
   rw[if_pos hop]at HK
   go_enter Tryz.func116,Tryz.ntmps116
   cases hc:decide (x∈sv)
   ·rw[hc]at HK;go_wp2
    go_quiet ((go_at_call 119;refine(FK _ _ sv x (HIv.out.below (by repeat(first|exact Ad|assumption|(refine AD ?_ _)|(refine AE ?_ _)|(refine Below.drew ?_))))).mono ?_;rintro e w' ⟨rfl,n3,rfl⟩;rw[hc];exact⟨rfl,_,World.drewN_drewN ..⟩))
    go_wp2;go_ret;refine⟨Ak ?_,(by repeat(first|exact Ad|assumption|(refine AD ?_ _)|(refine AE ?_ _)|(refine Below.drew ?_)))⟩;rw[HK.out];rfl
   ·rw[hc]at HK;obtain⟨x0,x1⟩:=HR.out x (by simpa using hc);obtain⟨y,rfl⟩:=Int.eq_ofNat_of_zero_le x0
    have hy:y<set.length:=by have:=HL.out;omega
    have hyI:(y:Int)<set.length:=by omega
    have eY:=HSS.out y hy;rw[Int.toNat_natCast]at HK;generalize set.getD y false=z at*;clear x0 x1;go_wp2
    go_quiet ((go_at_call 119;refine(FK _ _ sv y (HIv.out.below (by repeat(first|exact Ad|assumption|(refine AD ?_ _)|(refine AE ?_ _)|(refine Below.drew ?_))))).mono ?_;rintro e w' ⟨rfl,n3,rfl⟩;rw[hc];exact⟨rfl,_,World.drewN_drewN ..⟩))
    go_wp2;go_ret;refine⟨Ak ?_,(by repeat(first|exact Ad|assumption|(refine AD ?_ _)|(refine AE ?_ _)|(refine Below.drew ?_)))⟩;rw[HK.out];simp
end Go.Proofs.YtncjeamdkjcebaaGreatDoor
namespace Go.Proofs.YtncjeamdkjcebaaGreatDoor
open Go Go.RowKit
section
variable {F:Fence} {n:Nat} {P:Program} {ops:Array Oper} {Q:Exit->Act->World->Prop} {md:Region.Mode}
def Gg(F:Fence)(n:Nat)(P:Program)(Q:Exit->Act->World->Prop)(ops:Array Oper)(R:Nat->Value->World->Prop)(A:(Nat->Value)->Act)(w:World)(i:Nat)(o:Oper):Prop:=
 ∀(vs:Nat->Value)(W:World)(K:Act->World->Prop),Below w.heap.size w W->(∀e∈o.after,Region.binds .any e=true->R e.on (vs e.on) W)->
  (∀v W',Below W.heap.size W W'->R i v W'->K (A (upd vs i v)) W')->
  if Region.wanted o (yielded ops (A vs).tmps)=true then Oper.wpIn F n P o (A vs) W K Q else(∀f,o.about P W (A vs).eval=some f->F.fn f)/\K ((A vs).put o.dst undef) W
theorem GG(R:Nat->Value->World->Prop)(A:(Nat->Value)->Act){w:World}(hb:EQ .any ops=true)(hR:∀i v W W',R i v W->Below W.heap.size W W'->R i v W')
  (hstep:∀i o,ops[i]? =some o->Gg F n P Q ops R A w i o)
  (hfin:∀vs W,Below w.heap.size w W->(∀i,i<ops.size->R i (vs i) W)->Q .normal (A vs) W):
  ∀(fuel:Nat)(listed:Array Bool)(vs:Nat->Value)(W:World),listed.size=ops.size->listed.toList.count false<=fuel->Nd R w listed vs W->wpAnyIn F n P .any ops Q fuel listed (A vs) W
 |0,listed,vs,W,hs,hc,hinv=>by
  have hno:∀j,¬listed.getD j true=false:=fun j h=>by
   obtain⟨_,h2⟩:=CV h;have:0<listed.toList.count false:=List.count_pos_iff.2 (List.mem_of_getElem? h2);omega
  have hr:Region.ready .any ops listed=[]:=List.eq_nil_iff_forall_not_mem.2 fun j hj=>hno j (mem_ready.1 hj).1
  exact⟨hr,hfin vs W hinv.1 fun i hi=>hinv.2 i (CN hb hs hr i hi)⟩
 |fuel+1,listed,vs,W,hs,hc,hinv=>by
  refine⟨fun hr=>hfin vs W hinv.1 fun i hi=>hinv.2 i (CN hb hs hr i hi),fun i hi=> ?_⟩;obtain⟨hl,o,ho,hall⟩:=mem_ready.1 hi
  refine wpOpIn_step ho fun K hK=> ?_
  refine hstep i o ho vs W K hinv.1 (fun e he hbd=>hinv.2 _ (hall e he hbd)) fun v W' hbl hr=>hK _ _ ?_
  refine GG R A hb hR hstep hfin fuel _ (upd vs i v) W' (by simpa using hs) (DP hl hc) ⟨hinv.1.trans (hbl.mono hinv.1.size),fun j hj=> ?_⟩
  by_cases hji:j=i
  ·subst hji;simpa[upd]using hr
  ·have hj':listed.getD j false=true:=by
    have:(listed.setIfInBounds i true).getD j false=listed.getD j false:=by
     simp[Array.getD_eq_getD_getElem?,Ne.symm hji]
    rwa [this]at hj
   simp only[upd,if_neg hji];exact hR j _ W W' (hinv.2 j hj') hbl
theorem Dv{id:Nat}{a:Act}{w:World}(hm:P.follows .mixedOrders=true)(R:Nat->Value->World->Prop)(A:(Nat->Value)->Act)(vs:Nat->Value)(ha:a=A vs)(hb:EQ .any ops=true)
  (hR:∀i v W W',R i v W->Below W.heap.size W W'->R i v W')
  (hstep:∀i o,ops[i]? =some o->Gg F n P Q ops R A w.drew i o)
  (hfin:∀vs W,Below w.drew.heap.size w.drew W->(∀i,i<ops.size->R i (vs i) W)->Q .normal (A vs) W):(Code.region id ops true).wpIn F n P Q a w:=by
 subst ha;refine wpIn_region_any hm (GG R A hb hR hstep hfin ops.size _ vs w.drew (by simp) ?_ ⟨Ad,fun i hi=> ?_⟩)
 ·simp
 ·exfalso
  rcases Nat.lt_or_ge i ops.size with h|h
  ·simp[Array.getD,h]at hi
  ·simp[Array.getD,Nat.not_lt.2 h]at hi
theorem Kw{listed:Array Bool}{a:Act}{w:World}(h:∀i,i<ops.size->listed.getD i false=true)(hQ:Q .normal a w):∀fuel,wpAnyIn F n P md ops Q fuel listed a w
 |0=>⟨Fs h,hQ⟩
 | _+1=>⟨fun _=>hQ,by rw[Fs h];simp⟩
def KG(F:Fence)(n:Nat)(P:Program)(Q:Exit->Act->World->Prop)(ops:Array Oper)(R:Nat->Value->World->Prop)(A:(Nat->Value)->Act)(w:World)(m:Nat)(o:Oper):Prop:=
 ∀(vs:Nat->Value)(W:World)(K:Act->World->Prop),Below w.heap.size w W->(∀i,i<m->R i (vs i) W)->(∀a' W',Q .normal a' W'->K a' W')->
  if Region.wanted o (yielded ops (A vs).tmps)=true then Oper.wpIn F n P o (A vs) W K Q else(∀f,o.about P W (A vs).eval=some f->F.fn f)/\K ((A vs).put o.dst undef) W
theorem Is(R:Nat->Value->World->Prop)(A:(Nat->Value)->Act){w:World}(m:Nat)(hb:EQ .any ops=true)(hl:Hf ops m=true)(hR:∀i v W W',R i v W->Below W.heap.size W W'->R i v W')
  (hstep:∀i o,i<m->ops[i]? =some o->Gg F n P Q ops R A w i o) (hlast:∀o,ops[m]? =some o->KG F n P Q ops R A w m o):
  ∀(fuel:Nat)(listed:Array Bool)(vs:Nat->Value)(W:World),listed.size=ops.size->listed.toList.count false<=fuel->listed.getD m false=false->Nd R w listed vs W->wpAnyIn F n P .any ops Q fuel listed (A vs) W
 |0,listed,vs,W,hs,hc,hm,hinv=>by
  simp only[Hf,Bool.and_eq_true,decide_eq_true_eq]at hl
  have h1:listed.getD m true=false:=by
   have:m<listed.size:=by omega
   simp[Array.getD,this]at hm⊢;exact hm
  obtain⟨_,h2⟩:=CV h1;have:0<listed.toList.count false:=List.count_pos_iff.2 (List.mem_of_getElem? h2);omega
 |fuel+1,listed,vs,W,hs,hc,hm,hinv=>by
  have hl':=hl;simp only[Hf,Bool.and_eq_true,decide_eq_true_eq]at hl';obtain⟨hsz,hla⟩:=hl';refine⟨fun hr=> ?_,fun i hi=> ?_⟩
  ·have:=CN hb hs hr m (by omega);rw[hm]at this;cases this
  ·obtain⟨hli,o,ho,hall⟩:=mem_ready.1 hi;have hilt:=(ltE ho)
   have hset:∀j,j≠i->(listed.setIfInBounds i true).getD j false=listed.getD j false:=fun j hj=>by
    simp[Array.getD_eq_getD_getElem?,Ne.symm hj]
   by_cases him:i=m
   ·subst him;rw[ho]at hla
    have hothers:∀j,j<i->listed.getD j false=true:=fun j hj=>by
     have:=List.all_eq_true.1 hla j (List.mem_range.2 hj);obtain⟨e,he,h2⟩:=List.any_eq_true.1 this;simp only[Bool.and_eq_true,beq_iff_eq]at h2;obtain⟨h3,rfl⟩:=h2;exact hall e (by simpa using he) h3
    refine wpOpIn_step ho fun K hK=> ?_
    refine hlast o ho vs W K hinv.1 (fun j hj=>hinv.2 j (hothers j hj)) fun a' W' hQ=>hK _ _ (Kw (fun j hj=> ?_) hQ fuel)
    by_cases hji:j=i
    ·subst hji
     have:j<listed.size:=by omega
     simp[Array.getD,this]
    ·rw[hset j hji];exact hothers j (by omega)
   ·refine wpOpIn_step ho fun K hK=> ?_
    refine hstep i o (by omega) ho vs W K hinv.1 (fun e he hbd=>hinv.2 _ (hall e he hbd)) fun v W' hbl hr=>hK _ _ ?_
    refine Is R A m hb hl hR hstep hlast fuel _ (upd vs i v) W' (by simpa using hs) (DP hli hc) (by rw[hset m (Ne.symm him)];exact hm) ⟨hinv.1.trans (hbl.mono hinv.1.size),fun j hj=> ?_⟩
    by_cases hji:j=i
    ·subst hji;simpa[upd]using hr
    ·rw[hset j hji]at hj;simp only[upd,if_neg hji];exact hR j _ W W' (hinv.2 j hj) hbl
theorem FI{id:Nat}{a:Act}{w:World}(hm:P.follows .mixedOrders=true)(R:Nat->Value->World->Prop)(A:(Nat->Value)->Act)(vs:Nat->Value)(m:Nat)(ha:a=A vs)(hb:EQ .any ops=true)(hl:Hf ops m=true)
  (hR:∀i v W W',R i v W->Below W.heap.size W W'->R i v W')
  (hstep:∀i o,i<m->ops[i]? =some o->Gg F n P Q ops R A w.drew i o) (hlast:∀o,ops[m]? =some o->KG F n P Q ops R A w.drew m o):(Code.region id ops true).wpIn F n P Q a w:=by
 subst ha
 have hnone:∀i,(Array.replicate ops.size false).getD i false=false:=fun i=>by
  rcases Nat.lt_or_ge i ops.size with h|h
  ·simp[Array.getD,h]
  ·simp[Array.getD,Nat.not_lt.2 h]
 refine wpIn_region_any hm (Is R A m hb hl hR hstep hlast ops.size _ vs w.drew (by simp) (by simp) (hnone m) ⟨Ad,fun i hi=> ?_⟩);rw[hnone i]at hi;cases hi
end
section
variable {F:Fence} {n:Nat} {P:Program} {ops:Array Oper} {Q:Exit->Act->World->Prop}
def OZ(F:Fence)(n:Nat)(P:Program)(Q:Exit->Act->World->Prop)(ops:Array Oper)(R:Nat->Value->World->Prop)(B0:World->Prop)(A:(Nat->Value)->Act)(i:Nat)(o:Oper):Prop:=
 ∀(vs:Nat->Value)(W:World)(K:Act->World->Prop),B0 W->(∀e∈o.after,Region.binds .any e=true->R e.on (vs e.on) W)->
  (∀v W',B0 W'->(∀j x,j≠i->R j x W->R j x W')->R i v W'->K (A (upd vs i v)) W')->
  if Region.wanted o (yielded ops (A vs).tmps)=true then Oper.wpIn F n P o (A vs) W K Q else(∀f,o.about P W (A vs).eval=some f->F.fn f)/\K ((A vs).put o.dst undef) W
theorem K8(R:Nat->Value->World->Prop)(B0:World->Prop)(A:(Nat->Value)->Act)(hb:EQ .any ops=true)
  (hstep:∀i o,ops[i]? =some o->OZ F n P Q ops R B0 A i o)
  (hfin:∀vs W,B0 W->(∀i,i<ops.size->R i (vs i) W)->Q .normal (A vs) W):
  ∀(fuel:Nat)(listed:Array Bool)(vs:Nat->Value)(W:World),listed.size=ops.size->listed.toList.count false<=fuel->(B0 W/\∀i,listed.getD i false=true->R i (vs i) W)->wpAnyIn F n P .any ops Q fuel listed (A vs) W
 |0,listed,vs,W,hs,hc,hinv=>by
  have hno:∀j,¬listed.getD j true=false:=fun j h=>by
   obtain⟨_,h2⟩:=CV h;have:0<listed.toList.count false:=List.count_pos_iff.2 (List.mem_of_getElem? h2);omega
  have hr:Region.ready .any ops listed=[]:=List.eq_nil_iff_forall_not_mem.2 fun j hj=>hno j (mem_ready.1 hj).1
  exact⟨hr,hfin vs W hinv.1 fun i hi=>hinv.2 i (CN hb hs hr i hi)⟩
 |fuel+1,listed,vs,W,hs,hc,hinv=>by
  refine⟨fun hr=>hfin vs W hinv.1 fun i hi=>hinv.2 i (CN hb hs hr i hi),fun i hi=> ?_⟩;obtain⟨hl,o,ho,hall⟩:=mem_ready.1 hi
  refine wpOpIn_step ho fun K hK=> ?_
  refine hstep i o ho vs W K hinv.1 (fun e he hbd=>hinv.2 _ (hall e he hbd)) fun v W' hbl hk hr=>hK _ _ ?_
  refine K8 R B0 A hb hstep hfin fuel _ (upd vs i v) W' (by simpa using hs) (DP hl hc) ⟨hbl,fun j hj=> ?_⟩
  by_cases hji:j=i
  ·subst hji;simpa[upd]using hr
  ·have hj':listed.getD j false=true:=by
    have:(listed.setIfInBounds i true).getD j false=listed.getD j false:=by
     simp[Array.getD_eq_getD_getElem?,Ne.symm hji]
    rwa [this]at hj
   simp only[upd,if_neg hji];exact hk j _ hji (hinv.2 j hj')
theorem I6{id:Nat}{a:Act}{w:World}(hm:P.follows .mixedOrders=true)(R:Nat->Value->World->Prop)(B0:World->Prop)(A:(Nat->Value)->Act)(vs:Nat->Value)(ha:a=A vs)(hb:EQ .any ops=true)(h0:B0 w.drew)
  (hstep:∀i o,ops[i]? =some o->OZ F n P Q ops R B0 A i o)
  (hfin:∀vs W,B0 W->(∀i,i<ops.size->R i (vs i) W)->Q .normal (A vs) W):(Code.region id ops true).wpIn F n P Q a w:=by
 subst ha;refine wpIn_region_any hm (K8 R B0 A hb hstep hfin ops.size _ vs w.drew (by simp) ?_ ⟨h0,fun i hi=> ?_⟩)
 ·simp
 ·exfalso
  rcases Nat.lt_or_ge i ops.size with h|h
  ·simp[Array.getD,h]at hi
  ·simp[Array.getD,Nat.not_lt.2 h]at hi
end
end Go.Proofs.YtncjeamdkjcebaaGreatDoor
namespace Go.Proofs.YtncjeamdkjcebaaGreatDoor
open Go.RowKit
theorem Az{w0 w:World}{B:Nat}(hb:Below B w0 w)(hB:B<=w.heap.size)(cs:Array Value)(t:TypeId):(w.alloc (.cells cs t)).heap[w.heap.size]? =some (.cells cs t (0,0))/\Below w.heap.size w (w.alloc (.cells cs t))/\Below B w0 (w.alloc (.cells cs t)):=
 ⟨heap_alloc_new _ _,Ao _,hb.trans ((Ao _).mono hB)⟩
theorem BY{w W:World}{g j:Nat}{u:Value}(h:Below w.heap.size w W)(hg:w.heap.size<=g):Below w.heap.size w (W.setCell ⟨g,j,none⟩ u):=
 h.trans ((Ag.set (S:=fun q=>q=g) g j u rfl).below _ (fun q e=>by have e:q=g:=e;omega) h.size)
theorem Ar.dat2{w:World}{a:Option Addr}{n c:Nat}{ll:List (List Int)}(h:Ar w (.slice a n c) ll):∃b o,(0<n->a=some ⟨b,o,none⟩)/\n<=140737488351232/\∀j,j<n->∃ao cap,w.cell? ⟨b,o+j,none⟩=some (.slice ao (ll.getD j []).length cap)/\Ai w (.slice ao (ll.getD j []).length cap) (ll.getD j []):=by
 obtain⟨a',c',b,o,V,hv,d,hn,f⟩:=h.data
 injection hv with h1 h2 h3
 subst h1 h2 h3;refine⟨b,o,d,hn,fun j hj=> ?_⟩;obtain⟨f1,f2⟩:=f j hj;obtain⟨ao,cap,e⟩:=f2.shape;rw[e]at f1 f2;exact⟨ao,cap,f1,f2⟩
theorem Ar.shape{w:World}{v:Value}{ll:List (List Int)}(h:Ar w v ll):∃a c,v=.slice a ll.length c:=by
 obtain⟨a,c,b,o,V,rfl,-⟩:=h.data;exact⟨a,c,rfl⟩
def Et(ll:List (List Int))(w:World)(e:Ending)(w':World):Prop:=∃v,e=.returned v/\Ar w' v ll/\Below w.heap.size w w'
structure Dn(w:World)(B:Nat)(v:Value)(vals:List Value)(rows:List (List Int)):Prop where
 o:w.ownsRow B 26 1 v rows.length vals
 e:∀j,j<rows.length->OI w B (vals.getD j undef) (rows.getD j [])
 a:∀j,j<rows.length->AQ v (vals.getD j undef)
 lv:vals.length=rows.length
section
variable {w w':World} {B:Nat} {v u:Value} {vals:List Value} {rows:List (List Int)} {l:List Int}
theorem Dn.nil(w:World)(B:Nat):Dn w B (.slice none 0 0) [] []:=⟨World.ownsRow_nil _ _ _ _,fun j hj=>by simp at hj,fun j hj=>by simp at hj,rfl⟩
theorem Dn.grown(h:Dn w B v vals rows){r:Option Nat}(hg:w.grownBy w' r)(h1:v.ownBlock=none\/v.ownBlock≠r)(h2:∀j,j<rows.length->(vals.getD j undef).ownBlock=none\/(vals.getD j undef).ownBlock≠r):Dn w' B v vals rows:=
 ⟨World.ownsRow.kept h.o hg h1,fun j hj=>(h.e j hj).grown hg (h2 j hj),h.a,h.lv⟩
theorem Dn.below(h:Dn w B v vals rows)(hb:Below w.heap.size w w'):Dn w' B v vals rows:=
 h.grown (AV hb) (by cases v.ownBlock<;>simp) (fun j _=>by cases(vals.getD j undef).ownBlock<;>simp)
theorem Dn.lt(h:Dn w B v vals rows):∀g,v.ownBlock=some g->B<=g/\g<w.heap.size:=fun g hg=>World.ownsRow.lt h.o g hg
theorem Dn.row(h:Dn w B v vals rows)(hn:0<rows.length):∃g cap,v=.slice (some ⟨g,0,none⟩) rows.length cap/\B<=g/\g<w.heap.size:=by
 rcases h.o.2 with⟨-,e⟩|⟨g,cap,cur,rfl,hb,hg,-⟩
 ·have:=h.lv;rw[e]at this;simp at this;omega
 ·exact⟨g,cap,rfl,hb,(ltE hg)⟩
theorem Dn.slice(h:Dn w B v vals rows):∃ao cap,v=.slice ao rows.length cap:=by
 rcases h.o.2 with⟨rfl,e⟩|⟨g,cap,cur,rfl,-⟩
 ·have:=h.lv
  try rw[e]at this
  try simp at this
  exact⟨none,0,by rw[show rows.length=0 by omega]⟩
 ·exact⟨_,_,rfl⟩
theorem Dn.cell{g n cap j:Nat}(h:Dn w B (.slice (some ⟨g,0,none⟩) n cap) vals rows)(hn:rows.length=n)(hj:j<n):w.cell? ⟨g,j,none⟩=some (vals.getD j undef):=by
 subst hn;rw[World.ownsRow.cellAt h.o j (by omega)];simp[List.getD,show j<vals.length by rw[h.lv];exact hj]
theorem Dn.fz{g n cap:Nat}(h:Dn w B (.slice (some ⟨g,0,none⟩) n cap) vals rows)(hn:rows.length=n)(j:Nat):w.frozen? ⟨g,j,none⟩=false:=by
 subst hn;exact World.ownsRow.frozenAt h.o j
theorem Dn.set{g n cap:Nat}(h:Dn w B (.slice (some ⟨g,0,none⟩) n cap) vals rows)(hn:rows.length=n){j:Nat}(hu:OI w B u l)(ha:AQ (.slice (some ⟨g,0,none⟩) n cap) u):
  Dn (w.setCell ⟨g,j,none⟩ u) B (.slice (some ⟨g,0,none⟩) n cap) (vals.set j u) (rows.set j l):=by
 subst hn;have hst:=(World.ownsRow.stored h.o j u).1
 have hne:∀(x:Value),AQ (.slice (some ⟨g,0,none⟩) rows.length cap) x->x.ownBlock=none\/x.ownBlock≠some g:=fun x hx=>by
  cases hxo:x.ownBlock with
  |none=>exact .inl rfl
  |some q=>exact .inr fun e=>by cases e;exact hx g rfl hxo
 refine⟨by rw[List.length_set];exact hst,fun i hi=> ?_,fun i hi=> ?_,by rw[List.length_set,List.length_set];exact h.lv⟩
 ·rw[List.length_set]at hi
  by_cases e:j=i
  ·subst e;rw[AA _ _ _ _ (by rw[h.lv];exact hi),AA _ _ _ _ hi];exact hu.grown (CC w g j u) (hne _ ha)
  ·rw[AJ _ _ _ _ _ e,AJ _ _ _ _ _ e];exact(h.e i hi).grown (CC w g j u) (hne _ (h.a i hi))
 ·rw[List.length_set]at hi
  by_cases e:j=i
  ·subst e;rw[AA _ _ _ _ (by rw[h.lv];exact hi)];exact ha
  ·rw[AJ _ _ _ _ _ e];exact h.a i hi
theorem Dn.is(h:Dn w B v vals rows)(hn:rows.length<=20000)(hl:∀j,j<rows.length->(rows.getD j []).length<=20000/\∀x∈rows.getD j [],I64 x):Ar w v rows:=by
 refine⟨fun j=>vals.getD j undef,Ch h.o (by unfold Bk;omega) _ fun j hj=> ?_,fun j hj=>(h.e j hj).is (by have:=(hl j hj).1;unfold Bk;omega) (hl j hj).2⟩
 have:j<vals.length:=by rw[h.lv];exact hj
 rw[Af _ _ _ this];simp[this]
theorem Dn.app{v':Value}(h:Dn w B v vals rows)(hu:OI w B u l)(ha:AQ v u)(ho:w'.ownsRow B 26 1 v' (rows.length+1) (vals++[u]))(hg:w.grownBy w' v.ownBlock)(hm:A7 w v v'):Dn w' B v' (vals++[u]) (rows++[l]):=by
 have hk:∀j,j<rows.length->(vals++[u]).getD j undef=vals.getD j undef:=fun j hj=>by
  rw[List.getD_eq_getElem?_getD,List.getD_eq_getElem?_getD,List.getElem?_append_left (by rw[h.lv];exact hj)]
 have hk2:∀j,j<rows.length->(rows++[l]).getD j []=rows.getD j []:=fun j hj=>by
  rw[List.getD_eq_getElem?_getD,List.getD_eq_getElem?_getD,List.getElem?_append_left hj]
 have e1:(vals++[u]).getD rows.length undef=u:=by
  rw[List.getD_eq_getElem?_getD,List.getElem?_append_right (by rw[h.lv];omega),h.lv];simp
 have e2:(rows++[l]).getD rows.length []=l:=by
  rw[List.getD_eq_getElem?_getD,List.getElem?_append_right (by omega)];simp
 refine⟨by rw[List.length_append,List.length_singleton];exact ho,fun j hj=> ?_,fun j hj=> ?_,by simp[h.lv]⟩
 ·rw[List.length_append,List.length_singleton]at hj
  by_cases e:j=rows.length
  ·subst e;rw[e1,e2];exact hu.grown hg ha.symm.ne
  ·rw[hk j (by omega),hk2 j (by omega)];exact(h.e j (by omega)).grown hg (h.a j (by omega)).symm.ne
 ·rw[List.length_append,List.length_singleton]at hj
  by_cases e:j=rows.length
  ·subst e;rw[e1];exact(ha.symm.moved hm hu.lt').symm
  ·rw[hk j (by omega)];exact((h.a j (by omega)).symm.moved hm (h.e j (by omega)).lt').symm
end
structure My where
 ins:Int
 outs:Int
 start:Int
 out:List (List Int)
 next:List (List Int)
deriving DecidableEq
structure Mo where
 ins:Int
 outs:Int
 start:Int
 inn:List Int
 next:List (List Int)
deriving DecidableEq
def BM(w:World)(v:Value)(m:My):Prop:=∃v3 v4,v=.agg #[.int .i64 m.ins,.int .i64 m.outs,.int .i64 m.start,v3,v4]/\(I64 m.ins/\I64 m.outs/\I64 m.start)/\Ar w v3 m.out/\Ar w v4 m.next
def Dl(w:World)(v:Value)(m:Mo):Prop:=∃v3 v4,v=.agg #[.int .i64 m.ins,.int .i64 m.outs,.int .i64 m.start,v3,v4]/\(I64 m.ins/\I64 m.outs/\I64 m.start)/\Ai w v3 m.inn/\Ar w v4 m.next
theorem BM.below{w wr:World}{v:Value}{m:My}(h:BM w v m)(hb:Below w.heap.size w wr):BM wr v m:=by
 obtain⟨v3,v4,rfl,h0,h2,h3⟩:=h;exact⟨v3,v4,rfl,h0,h2.below hb,h3.below hb⟩
theorem Dl.below{w wr:World}{v:Value}{m:Mo}(h:Dl w v m)(hb:Below w.heap.size w wr):Dl wr v m:=by
 obtain⟨v3,v4,rfl,h0,h2,h3⟩:=h;exact⟨v3,v4,rfl,h0,h2.below hb,h3.below hb⟩
def BA(width most:Int)(l:List Int):Bool:=decide ((l.length:Int)=width)&&l.all fun x=>decide (0<=x)&&decide (x<most)
def Ce(width most:Int)(ll:List (List Int)):Bool:=ll.all (BA width most)
def BG(ins outs states start:Int):Bool:=decide (1<=ins)&&decide (ins<=64)&&decide (1<=outs)&&decide (outs<=64)&&decide (states<=3000)&&decide (0<=start)&&decide (start<states)
def Be(m:My):Bool:=BG m.ins m.outs m.out.length m.start&&decide (m.next.length=m.out.length)&&Ce m.ins m.outs m.out&&Ce m.ins m.out.length m.next
def Bq(e:Mo):Bool:=BG e.ins e.outs e.inn.length e.start&&decide (e.next.length=e.inn.length)&&Ce e.inn.length e.ins [e.inn]&&Ce e.outs e.inn.length e.next
theorem B8{a b c d:Int}:BG a b c d=true↔1<=a/\a<=64/\1<=b/\b<=64/\c<=3000/\0<=d/\d<c:=by
 simp only[BG,Bool.and_eq_true,decide_eq_true_eq]
 constructor
 ·rintro⟨⟨⟨⟨⟨⟨h1,h2⟩,h3⟩,h4⟩,h5⟩,h6⟩,h7⟩;exact⟨h1,h2,h3,h4,h5,h6,h7⟩
 ·rintro⟨h1,h2,h3,h4,h5,h6,h7⟩;exact⟨⟨⟨⟨⟨⟨h1,h2⟩,h3⟩,h4⟩,h5⟩,h6⟩,h7⟩
theorem G7{a b:Int}{ll:List (List Int)}:Ce a b ll=true↔∀i,i<ll.length->((ll.getD i []).length:Int)=a/\∀k,k<(ll.getD i []).length->0<=(ll.getD i []).getD k 0/\(ll.getD i []).getD k 0<b:=by
 unfold Ce;rw[List.all_eq_true]
 constructor
 ·intro h i hi;have:=h _ (List.getElem_mem hi);rw[<-Af ll [] i hi]at this;simp only[BA,Bool.and_eq_true,decide_eq_true_eq,List.all_eq_true]at this;refine⟨this.1,fun k hk=> ?_⟩;rw[Af _ 0 k hk];exact this.2 _ (List.getElem_mem hk)
 ·intro h l hl;obtain⟨i,hi,rfl⟩:=List.mem_iff_getElem.1 hl;have:=h i hi;rw[Af ll [] i hi]at this;simp only[BA,Bool.and_eq_true,decide_eq_true_eq,List.all_eq_true];refine⟨this.1,fun x hx=> ?_⟩;obtain⟨k,hk,rfl⟩:=List.mem_iff_getElem.1 hx;have h2:=this.2 k hk;rw[Af _ 0 k hk]at h2;exact h2
structure MyV(m:My):Prop where
 i1:1<=m.ins
 i2:m.ins<=64
 o1:1<=m.outs
 o2:m.outs<=64
 n:m.out.length<=3000
 s0:0<=m.start
 s1:m.start<m.out.length
 nl:m.next.length=m.out.length
 out:∀i,i<m.out.length->((m.out.getD i []).length:Int)=m.ins/\∀k,k<(m.out.getD i []).length->0<=(m.out.getD i []).getD k 0/\(m.out.getD i []).getD k 0<m.outs
 nxt:∀i,i<m.out.length->((m.next.getD i []).length:Int)=m.ins/\∀k,k<(m.next.getD i []).length->0<=(m.next.getD i []).getD k 0/\(m.next.getD i []).getD k 0<m.out.length
theorem F6{m:My}:Be m=true↔MyV m:=by
 simp only[Be,Bool.and_eq_true,B8,G7,decide_eq_true_eq]
 constructor
 ·rintro⟨⟨⟨⟨h1,h2,h3,h4,h5,h6,h7⟩,h8⟩,h9⟩,h10⟩;exact⟨h1,h2,h3,h4,by omega,h6,h7,h8,h9,fun i hi=>h10 i (by omega)⟩
 ·intro h;exact⟨⟨⟨⟨h.i1,h.i2,h.o1,h.o2,by have:=h.n;omega,h.s0,h.s1⟩,h.nl⟩,h.out⟩,fun i hi=>h.nxt i (by have:=h.nl;omega)⟩
structure MoV(e:Mo):Prop where
 i1:1<=e.ins
 i2:e.ins<=64
 o1:1<=e.outs
 o2:e.outs<=64
 n:e.inn.length<=3000
 s0:0<=e.start
 s1:e.start<e.inn.length
 nl:e.next.length=e.inn.length
 inn:∀k,k<e.inn.length->0<=e.inn.getD k 0/\e.inn.getD k 0<e.ins
 nxt:∀i,i<e.inn.length->((e.next.getD i []).length:Int)=e.outs/\∀k,k<(e.next.getD i []).length->0<=(e.next.getD i []).getD k 0/\(e.next.getD i []).getD k 0<e.inn.length
theorem EM{e:Mo}:Bq e=true↔MoV e:=by
 simp only[Bq,Bool.and_eq_true,B8,G7,decide_eq_true_eq]
 constructor
 ·rintro⟨⟨⟨⟨h1,h2,h3,h4,h5,h6,h7⟩,h8⟩,h9⟩,h10⟩;exact⟨h1,h2,h3,h4,by omega,h6,h7,h8,(h9 0 (by simp)).2,fun i hi=>h10 i (by omega)⟩
 ·intro h;refine⟨⟨⟨⟨h.i1,h.i2,h.o1,h.o2,by have:=h.n;omega,h.s0,h.s1⟩,h.nl⟩,fun i hi=> ?_⟩,fun i hi=>h.nxt i (by have:=h.nl;omega)⟩
  obtain rfl:i=0:=by simp at hi;omega
  exact⟨rfl,h.inn⟩
end Go.Proofs.YtncjeamdkjcebaaGreatDoor
