/- The walk of newBoard. -/
import Derived.Test.YtncjeamdkjcebaaDoorZAr4
set_option linter.all false
set_option maxHeartbeats 8000000
set_option maxRecDepth 100000
namespace Go.Proofs.YtncjeamdkjcebaaDoor
open Go.RowKit
def R1b(vl v2:Value)(ao3:Option Addr)(L St:Int)(n n3 cap3 B:Nat)(ix:Nat)(v:Value)(W:World):Prop:=
 match ix with
 |0=>v=(.agg #[.int .i64 L,.int .i64 St,v2,.slice ao3 n3 cap3])
 |1=>v=vl
 |2=>v=.int .i64 (n:Int)
 |3=>∃ob,v=.slice (some ⟨ob,0,none⟩) n n/\B<=ob/\W.heap[ob]? =some (.cells (madeCells #[.slice none 0 0] n) 25 (0,0))
 |4=>∃ob,v=.agg #[.int .i64 L,.int .i64 St,v2,.slice ao3 n3 cap3,.int .i64 0,.slice (some ⟨ob,0,none⟩) n n]/\B<=ob/\W.heap[ob]? =some (.cells (madeCells #[.slice none 0 0] n) 25 (0,0))
 |5=>∃z,v=.pointer (some ⟨z,0,none⟩)/\B<=z/\W.heap[z]? =some (.cells #[.int .i64 0,.int .i64 0,.slice none 0 0,.slice none 0 0,.int .i64 0,.slice none 0 0] 76 (0,0))
 | _=>True
theorem R1b.mono(vl v2:Value)(ao3:Option Addr)(L St:Int)(n n3 cap3 B:Nat)(ix:Nat)(v:Value)(W W':World)(h:R1b vl v2 ao3 L St n n3 cap3 B ix v W)(hb:Below W.heap.size W W'):R1b vl v2 ao3 L St n n3 cap3 B ix v W':=by
 unfold R1b at*
 split at h<;>first|exact h|(obtain⟨o,h1,h2,h3⟩:=h;exact⟨o,h1,h2,(hb.block o (ltE h3)).trans h3⟩)
def R14(vl:Value)(z ob n u m B B2:Nat)(ix:Nat)(v:Value)(W:World):Prop:=
 match ix with
 |0=>v=.pointer (some ⟨z,5,none⟩)
 |1=>v=.slice (some ⟨ob,0,none⟩) n n
 |2=>v=.int .i64 (u:Int)
 |3=>v=vl
 |4=>v=.int .i64 (m:Int)
 |5=>∃g,v=.slice (some ⟨g,0,none⟩) m m/\B2<=g/\OI W B v (List.replicate m 0)
 |6=>v=.pointer (some ⟨ob,u,none⟩)
 | _=>True
theorem R14.mono(vl:Value)(z ob n u m B B2:Nat)(ix:Nat)(v:Value)(W W':World)(h:R14 vl z ob n u m B B2 ix v W)(hb:Below W.heap.size W W'):R14 vl z ob n u m B B2 ix v W':=by
 unfold R14 at*
 split at h<;>first|exact h|(obtain⟨o,h1,h2,h3⟩:=h;exact⟨o,h1,h2,h3.below hb⟩)
def R18(vl:Value)(z ob n u m g o:Nat)(x:Int)(ix:Nat)(v:Value)(_:World):Prop:=
 match ix with
 |0=>v=.pointer (some ⟨z,5,none⟩)
 |1=>v=.slice (some ⟨ob,0,none⟩) n n
 |2|7=>v=.int .i64 (u:Int)
 |3=>v=.pointer (some ⟨ob,u,none⟩)
 |4=>v=.slice (some ⟨g,0,none⟩) m m
 |5|8=>v=.int .i64 (o:Int)
 |6=>v=vl
 |9=>v=.int .i64 x
 |10=>v=.pointer (some ⟨g,o,none⟩)
 | _=>True
theorem R18.mono(vl:Value)(z ob n u m g o:Nat)(x:Int)(ix:Nat)(v:Value)(W W':World)(h:R18 vl z ob n u m g o x ix v W)(_:Below W.heap.size W W'):R18 vl z ob n u m g o x ix v W':=by
 unfold R18 at*;exact h
theorem Mi{w:World}{z:Nat}{t:TypeId}{c0 c1 c2 c3 c4 c5 d0 d1 d2 d3 d4 d5:Value}(h:w.heap[z]? =some (.cells #[c0,c1,c2,c3,c4,c5] t (0,0))):
  ((((((w.setCell ⟨z,0,none⟩ d0).setCell ⟨z,1,none⟩ d1).setCell ⟨z,2,none⟩ d2).setCell ⟨z,3,none⟩ d3).setCell ⟨z,4,none⟩ d4).setCell ⟨z,5,none⟩ d5).heap[z]? =some (.cells #[d0,d1,d2,d3,d4,d5] t (0,0)):=
 heap_setCell_same _ z 5 _ _ d5 (heap_setCell_same _ z 4 _ _ d4 (heap_setCell_same _ z 3 _ _ d3 (heap_setCell_same _ z 2 _ _ d2 (heap_setCell_same _ z 1 _ _ d1 (heap_setCell_same _ z 0 _ _ d0 h)))))
theorem Kv(w:World)(z:Nat)(d0 d1 d2 d3 d4 d5:Value):
  Ae (fun k=>k=z) w ((((((w.setCell ⟨z,0,none⟩ d0).setCell ⟨z,1,none⟩ d1).setCell ⟨z,2,none⟩ d2).setCell ⟨z,3,none⟩ d3).setCell ⟨z,4,none⟩ d4).setCell ⟨z,5,none⟩ d5):=
 (((((Ae.set (S:=fun k=>k=z) z 0 d0 rfl).trans (Ae.set z 1 d1 rfl)).trans (Ae.set z 2 d2 rfl)).trans (Ae.set z 3 d3 rfl)).trans (Ae.set z 4 d4 rfl)).trans (Ae.set z 5 d5 rfl)
def FB(va:Value)(a:Au)(l:List Sig)(w:World)(e:Ending)(w':World):Prop:=∃v2 v3 vt,va=.agg #[.int .i64 a.letters,.int .i64 a.start,v2,v3]/\e=.returned (.agg #[.int .i64 a.letters,.int .i64 a.start,v2,v3,.int .i64 (AP a),vt])/\Ao w' vt (Al l)/\Below w.heap.size w w'
theorem K6(w:World)(vl va:Value)(l:List Sig)(a:Au)(hK:Bt w)(hl:AJ w vl l)(ha:B4 w va a)(hv:Ax l=true):
  Calls Tryd.prog 36 #[vl,va] w (FB va a l w):=by
 obtain⟨⟨hi0,hi1⟩,⟨ho0,ho1⟩⟩:=C5 hv
 have HIn:Hid (∀W,Below w.heap.size w W->Calls Tryd.prog 40 #[vl] W (AC (.int .i64 (An l)) W)):=fun W h=>Dq W vl l (hK.below h) (hl.below h)
 have HOu:Hid (∀W,Below w.heap.size w W->Calls Tryd.prog 41 #[vl] W (AC (.int .i64 (Ah l)) W)):=fun W h=>CG W vl l (hK.below h) (hl.below h)
 have HJn:Hid (∀W(i o:Nat),i<=64->o<=64->Below w.heap.size w W->Calls Tryd.prog 61 #[vl,.int .i64 (i:Int),.int .i64 (o:Int)] W (AC (.int .i64 (AQ l i o)) W)):=fun W i o h1 h2 h=>KM W vl l i o (by unfold I64;omega) (by unfold I64;omega) (hK.below h) (hl.below h)
 obtain⟨n,hn⟩:∃n:Nat,An l=(n:Int):=⟨(An l).toNat,by omega⟩;obtain⟨m,hm⟩:∃m:Nat,Ah l=(m:Int):=⟨(Ah l).toNat,by omega⟩;rw[hn]at hi0 hi1 HIn;rw[hm]at ho0 ho1 HOu
 have HNN:Hid ((An l).toNat=n):=by show _=_;rw[hn];rfl
 have HMM:Hid ((Ah l).toNat=m):=by show _=_;rw[hm];rfl
 obtain⟨ao,cap,b,off,rfl,-⟩:=hl;obtain⟨vv2,vv3,rfl,-,⟨V2,⟨ao2,cap2,b2,off2,rfl,-⟩,-⟩,⟨V3,⟨ao3,cap3,b3,off3,rfl,g3⟩,hr3⟩⟩:=ha;obtain⟨n2,hn2⟩:∃n2,n2=a.next.length:=⟨_,rfl⟩;obtain⟨L,hL⟩:∃L,L=a.letters:=⟨_,rfl⟩;obtain⟨St,hSt⟩:∃St,St=a.start:=⟨_,rfl⟩;obtain⟨n3,hn3⟩:∃n3,n3=a.prio.length:=⟨_,rfl⟩;obtain⟨vl,hvl⟩:∃vl,vl=Value.slice ao l.length cap:=⟨_,rfl⟩;rw[<-hn3]at g3 hr3;rw[<-hn2,<-hL,<-hSt,<-hn3,<-hvl];rw[<-hvl]at HIn HOu HJn;have HG3:=Ab g3;have HR3:=Ab hr3;have HN3:=Ab hn3;have hnb3:=g3.nb;have HVS:Hid (Ax l=true):=hv;have HLS:Hid (L=a.letters/\St=a.start):=⟨hL,hSt⟩;clear g3 hr3 hv hn hm hK hn2 hL hSt hn3 hvl
 have hmx:Tryd.prog.follows .mixedOrders=true:=by kernel_rfl
 have mki:=fun wx=>run_make_row' (P:=Tryd.prog) 25 3 (.int .i64 0) 8 Tryd.underlying25 C2 rfl .i64 .i64 m (by omega) (by omega) wx
 have mkr:=fun wx=>run_make_row' (P:=Tryd.prog) 22 25 (.slice none 0 0) 24 Tryd.underlying22 Dn rfl .i64 .i64 n (by omega) (by omega) wx
 go_enter Tryd.func36,Tryd.ntmps36
 go_upto_region 1 with(fail)
 have hbx:Below w.heap.size w ((w.alloc (.cells #[.int .i64 L,.int .i64 St,(Value.slice ao2 n2 cap2),.slice ao3 n3 cap3] 44)).alloc (.cells #[.int .i64 0,.int .i64 0,.slice none 0 0,.slice none 0 0,.int .i64 0,.slice none 0 0] 76)):=(by repeat(first|exact Ad|assumption|apply AF|apply AE));have hpb:((w.alloc (.cells #[.int .i64 L,.int .i64 St,(Value.slice ao2 n2 cap2),.slice ao3 n3 cap3] 44)).alloc (.cells #[.int .i64 0,.int .i64 0,.slice none 0 0,.slice none 0 0,.int .i64 0,.slice none 0 0] 76)).heap[w.heap.size]? =some (.cells #[.int .i64 L,.int .i64 St,(Value.slice ao2 n2 cap2),.slice ao3 n3 cap3] 44 (0,0)):=(by(repeat(rw[Ak];first|rw[if_pos (by first|simp;done|simp;omega)]|rw[if_neg (by first|simp;done|simp;omega)]));(try rfl));have hrc:((w.alloc (.cells #[.int .i64 L,.int .i64 St,(Value.slice ao2 n2 cap2),.slice ao3 n3 cap3] 44)).alloc (.cells #[.int .i64 0,.int .i64 0,.slice none 0 0,.slice none 0 0,.int .i64 0,.slice none 0 0] 76)).heap[w.heap.size+1]? =some (.cells #[.int .i64 0,.int .i64 0,.slice none 0 0,.slice none 0 0,.int .i64 0,.slice none 0 0] 76 (0,0)):=(by(repeat(rw[Ak];first|rw[if_pos (by first|simp;done|simp;omega)]|rw[if_neg (by first|simp;done|simp;omega)]));(try rfl));generalize((w.alloc (.cells #[.int .i64 L,.int .i64 St,(Value.slice ao2 n2 cap2),.slice ao3 n3 cap3] 44)).alloc (.cells #[.int .i64 0,.int .i64 0,.slice none 0 0,.slice none 0 0,.int .i64 0,.slice none 0 0] 76))=w1 at*;have hsz:=(ltE hrc)
 have HSZ:Hid (w.heap.size+2<=w1.drew.heap.size):=by show _<=w1.heap.size;omega
 have HB1:Hid (∀W,Below w1.drew.heap.size w1.drew W->Below w.heap.size w W):=fun W h=>hbx.trans (((Below.drew Ad).trans h).mono hbx.size)
 have HPX:Hid (∀W,Below w1.drew.heap.size w1.drew W->W.heap[w.heap.size]? =some (.cells #[.int .i64 L,.int .i64 St,(Value.slice ao2 n2 cap2),.slice ao3 n3 cap3] 44 (0,0))/\W.heap[w.heap.size+1]? =some (.cells #[.int .i64 0,.int .i64 0,.slice none 0 0,.slice none 0 0,.int .i64 0,.slice none 0 0] 76 (0,0))):=fun W h=>⟨(((Below.drew (B:=w1.heap.size) Ad).trans h).block _ (by omega)).trans hpb,(((Below.drew (B:=w1.heap.size) Ad).trans h).block _ (by omega)).trans hrc⟩
 have HPB:Hid (∀W,Below w1.drew.heap.size w1.drew W->W.cell? ⟨w.heap.size,0,none⟩=some (.int .i64 L)/\W.cell? ⟨w.heap.size,1,none⟩=some (.int .i64 St)/\W.cell? ⟨w.heap.size,2,none⟩=some (Value.slice ao2 n2 cap2)/\W.cell? ⟨w.heap.size,3,none⟩=some (.slice ao3 n3 cap3)):=fun W h=>by
  have k:=(HPX.out W h).1;exact⟨Aa 0 k,Aa 1 k,Aa 2 k,Aa 3 k⟩
 clear hbx hpb hrc
 go_cut [5] (fun s5 wx=>∃(z ob:Nat)(wz:World),s5=.pointer (some ⟨z,0,none⟩)/\wz=wx/\NB w wz z ob n L St (Value.slice ao2 n2 cap2) (.slice ao3 n3 cap3) 0 (List.replicate n (.slice none 0 0)) (List.replicate n []))
 case first J' K' hJR hMK=>
  have HMK:=Ab hMK;have HJR:=Ab hJR;clear hMK hJR;refine BZ hmx (R1b vl (Value.slice ao2 n2 cap2) ao3 L St n n3 cap3 (w.heap.size+2)) (fun vs=>{tmps:=(_::_::_::_::_::vs 5::_::_::_::_::_::_::vs 0::vs 1::vs 2::vs 3::vs 4::_::_::_::_::_::_::_::_::_::_::_::_::_::_::_::_::_::_::_::_::_::_::_::_::_::_::_::_::_::_::_::_::_::_::_::_::_::_::_::_::_::_::_::_::_::_::_::_::_::_::_::_::_::_::_::_::[]).toArray,defers:=[]}) (fun _=>undef) 6 rfl (by kernel_rfl) (by kernel_rfl) (R1b.mono vl (Value.slice ao2 n2 cap2) ao3 L St n n3 cap3 (w.heap.size+2)) ?step ?last
  case step=>
   intro ix o hlt ho
   match ix,hlt,ho with
   |0,hlt,ho=>
    obtain rfl:=osI ho;intro vs W K hB hD hK;have HK:=Ab hK;obtain⟨d0,d1,d2,d3⟩:=HPB.out W hB;clear hK hD ho hlt;dsimp only;go_simp;have h:=HK.out _ _ Ad rfl;simp only[upd,Nat.reduceEqDiff,reduceIte]at h;exact h
   |1,hlt,ho=>
    obtain rfl:=osI ho;intro vs W K hB hD hK;have HK:=Ab hK;clear hK hD ho hlt;dsimp only;go_simp;have h:=HK.out _ _ Ad rfl;simp only[upd,Nat.reduceEqDiff,reduceIte]at h;exact h
   |2,hlt,ho=>
    obtain rfl:=osI ho;intro vs W K hB hD hK;have HK:=Ab hK;have e1:vs 1=vl:=Ac hD 1 rfl;clear hK hD ho hlt;dsimp only;go_simp;refine(HIn.out W (HB1.out W hB)).mono ?_;rintro e W' ⟨rfl,hb⟩;have h:=HK.out _ _ hb rfl;simp only[upd,Nat.reduceEqDiff,reduceIte,e1]at h;exact h
   |3,hlt,ho|5,hlt,ho=>
    obtain rfl:=osI ho;intro vs W K hB hD hK;have HK:=Ab hK
    try have e2:vs 2=.int .i64 (n:Int):=Ac hD 2 rfl
    clear hK hD ho hlt;dsimp only;go_simp;have h:=HK.out _ _ (Ap _) ⟨_,rfl,Nat.le_trans HSZ.out hB.size,heap_alloc_new _ _⟩;simp only[upd,Nat.reduceEqDiff,reduceIte, *]at h;exact h
   |4,hlt,ho=>
    obtain rfl:=osI ho;intro vs W K hB hD hK;have HK:=Ab hK;have e0:vs 0=(.agg #[.int .i64 L,.int .i64 St,(Value.slice ao2 n2 cap2),.slice ao3 n3 cap3]):=Ac hD 0 rfl;obtain⟨ob,e3,hob,hobh⟩:∃ob,vs 3=.slice (some ⟨ob,0,none⟩) n n/\w.heap.size+2<=ob/\W.heap[ob]? =some (.cells (madeCells #[.slice none 0 0] n) 25 (0,0)):=Ac hD 3 (by rfl);clear hK hD ho hlt;dsimp only;go_simp;have h:=HK.out _ _ Ad ⟨ob,rfl,hob,hobh⟩;simp only[upd,Nat.reduceEqDiff,reduceIte,e0,e3]at h;exact h
   |q+6,hlt,ho=>omega
  case last=>
   intro o ho;obtain rfl:=osI ho;intro vs W K hB hall hK;have HK:=Ab hK;obtain⟨ob,e4,hob,hobh⟩:∃ob,vs 4=.agg #[.int .i64 L,.int .i64 St,(Value.slice ao2 n2 cap2),.slice ao3 n3 cap3,.int .i64 0,.slice (some ⟨ob,0,none⟩) n n]/\w.heap.size+2<=ob/\W.heap[ob]? =some (.cells (madeCells #[.slice none 0 0] n) 25 (0,0)):=hall 4 (by omega);obtain⟨z,e5,hz,hzh⟩:∃z,vs 5=.pointer (some ⟨z,0,none⟩)/\w.heap.size+2<=z/\W.heap[z]? =some (.cells #[.int .i64 0,.int .i64 0,.slice none 0 0,.slice none 0 0,.int .i64 0,.slice none 0 0] 76 (0,0)):=hall 5 (by omega)
   have hoz:ob≠z:=fun e=>by
    rw[e,hzh]at hobh;simp at hobh
   have c0:=Aa 0 hzh;have c1:=Aa 1 hzh;have c2:=Aa 2 hzh;have c3:=Aa 3 hzh;have c4:=Aa 4 hzh;have c5:=Aa 5 hzh;have f0:=Aw 0 hzh;have f1:=Aw 1 hzh;have f2:=Aw 2 hzh;have f3:=Aw 3 hzh;have f4:=Aw 4 hzh;have f5:=Aw 5 hzh;have HZ6:=Ab (Mi (d0:=.int .i64 L) (d1:=.int .i64 St) (d2:=(Value.slice ao2 n2 cap2)) (d3:=.slice ao3 n3 cap3) (d4:=.int .i64 0) (d5:=.slice (some ⟨ob,0,none⟩) n n) hzh);have HO6:=Ab (Kv W z (.int .i64 L) (.int .i64 St) (Value.slice ao2 n2 cap2) (.slice ao3 n3 cap3) (.int .i64 0) (.slice (some ⟨ob,0,none⟩) n n));have HOB:=Ab hobh;have HBW:=Ab (HB1.out W hB);have HPW:=Ab (HPX.out W hB);have hWs:w.heap.size+2<=W.heap.size:=Nat.le_trans HSZ.out hB.size;clear hK hall ho hobh hzh;dsimp only;go_simp;refine HK.out _ _ ?_;show K' _ _;refine HMK.out _ _ (Met.intro (HJR.out _ _ ?_))
   (repeat apply Exists.intro)
   refine⟨?rel,rfl⟩
   case rel=>
    refine⟨z,ob,_,rfl,rfl, ?_⟩
    exact {
     bx:=(((((HBW.out.setCell (p:=⟨z,0,none⟩) (by show w.heap.size<=z;omega) _).setCell (p:=⟨z,1,none⟩) (by show w.heap.size<=z;omega) _).setCell (p:=⟨z,2,none⟩) (by show w.heap.size<=z;omega) _).setCell (p:=⟨z,3,none⟩) (by show w.heap.size<=z;omega) _).setCell (p:=⟨z,4,none⟩) (by show w.heap.size<=z;omega) _).setCell (p:=⟨z,5,none⟩) (by show w.heap.size<=z;omega) _
     pb:=(HO6.out.block _ (by omega) (by omega)).trans HPW.out.1
     rc:=(HO6.out.block _ (by omega) (by omega)).trans HPW.out.2
     bd:=HZ6.out
     R:=(BC.made HOB.out hob (by omega)).only HO6.out hoz fun j hj b hb=>by simp[List.getD,hj,Value.ownBlock]at hb
     zB:=hz
     ne:=hoz
     x:=fun j hj b hb=>by simp[List.getD,hj,Value.ownBlock]at hb}
 case rest=>
  obtain⟨z,ob,w2,rfl,rfl,hN⟩:=hcut;have d3:=Aa 3 hN.pb;go_wp2;clear d3 mkr
  go_loopg [20] n3 (fun gh i wr=>∃k:Nat,gh=n3-k/\i=.int .i64 k/\k<=n3/\NB w wr z ob n L St (Value.slice ao2 n2 cap2) (.slice ao3 n3 cap3) (Gp a k) (List.replicate n (.slice none 0 0)) (List.replicate n []))
  case atStart=>exact⟨0,rfl,rfl,by omega,hN⟩
  case round=>
   obtain⟨k,hgk,rfl,hk,hN⟩:=hrel;have HG:=Ab hgk;clear hgk
   by_cases hlt:k<n3
   ·obtain⟨⟨ao4,cap4,b4,off4,hv4,g4⟩,hr4⟩:=HR3.out k (by first|exact hlt|(rw[<-HN3.out];exact hlt));have hnb:=HG3.out.ad;obtain rfl:=hnb (by omega);have c3:=Aj hN.bx (HG3.out.el k hlt);rw[hv4]at c3;have HT:Hid (Gp a (k+1)=Fo (Gp a k) (a.prio.getD k [])):=Ng a k (by rw[<-HN3.out];exact hlt);have HR4:=Ab hr4;have HN:=Ab hN;generalize hrow:a.prio.getD k []=row at*;clear hrow hv4 hr4;go_wp2;clear c3
    go_loopg [26] row.length (fun gh i wr=>∃j:Nat,gh=row.length-j/\i=.int .i64 j/\j<=row.length/\NB w wr z ob n L St (Value.slice ao2 n2 cap2) (.slice (some ⟨b3,off3,none⟩) n3 cap3) (Fo (Gp a k) (row.take j)) (List.replicate n (.slice none 0 0)) (List.replicate n []))
    case atStart=>exact⟨0,rfl,rfl,by omega,HN.out⟩
    case round=>
     obtain⟨j,hgj,rfl,hj,hN2⟩:=hrel;have HGJ:=Ab hgj;clear hgj hN
     by_cases hltj:j<row.length
     ·have hnb4:=g4.nb;obtain rfl:=g4.ad (by omega);have c4:=Aj hN2.bx (g4.el j hltj);unfold ivF at c4;have e4:=Aa 4 hN2.bd;have f4:=Aw 4 hN2.bd;have HM:Hid (Fo (Gp a k) (row.take (j+1))=max (Fo (Gp a k) (row.take j)) (row.getD j 0)):=MJ _ _ _ hltj
      have HNT:Hid (∀t,NB w (wr.setCell ⟨z,4,none⟩ (.int .i64 t)) z ob n L St (Value.slice ao2 n2 cap2) (.slice (some ⟨b3,off3,none⟩) n3 cap3) t (List.replicate n (.slice none 0 0)) (List.replicate n [])):=fun t=>hN2.top t
      generalize Fo (Gp a k) (row.take j)=tp at*;generalize row.getD j 0=xe at*;clear hN2;go_wp2
      all_goals
       go_roundg (row.length-(j+1))
       case measure=>have:=HGJ.out;omega
       case rel=>
        refine⟨j+1,rfl,by go_num,by omega, ?_⟩;rw[HM.out]
        first
         |(rw[show max tp xe=xe from by omega];exact HNT.out _)
         |(rw[show max tp xe=tp from by omega];exact HNT.out _)
     ·obtain rfl:j=row.length:=by omega
      rw[List.take_length,<-HT.out]at hN2;go_wp2
      go_roundg (n3-(k+1))
      case measure=>have:=HG.out;omega
      case rel=>exact⟨k+1,rfl,by go_num,by omega,hN2⟩
   ·obtain rfl:k=n3:=by omega
    have HTA:Hid (Gp a k=AP a):=by
     show _=_;rw[HN3.out,O9]
    rw[HTA.out]at hN;have e5:=Aa 5 hN.bd;go_wp2;clear e5
    go_loopg [40] n (fun gh i wr=>∃(u:Nat)(vals:List Value),gh=n-u/\i=.int .i64 u/\u<=n/\NB w wr z ob n L St (Value.slice ao2 n2 cap2) (.slice ao3 k cap3) (AP a) vals (Bq l u))
    case atStart=>exact⟨0,_,rfl,rfl,by omega,by rw[G4,HNN.out];exact hN⟩
    case round=>
     obtain⟨u,vals,hgu,rfl,hu,hN2⟩:=hrel;have HGU:=Ab hgu;clear hgu hN
     by_cases hltu:u<n
     ·have hl6:=hN2.lt;have HNL:Hid (w.heap.size+2<=wr.drew.heap.size):=hl6.1
      have HNW:Hid (∀W,Below wr.drew.heap.size wr.drew W->NB w W z ob n L St (Value.slice ao2 n2 cap2) (.slice ao3 k cap3) (AP a) vals (Bq l u)):=fun W h=>hN2.below ((Below.drew (B:=wr.heap.size) Ad).trans h)
      have hzB:=hN2.zB
      have HTL:Hid ((Bq l u).length=n):=by show _=_;rw[Iq,HNN.out]
      clear hN2
      go_upto_region 14 with(fail)
      go_cut [10] (fun s10 wx=>s10=.int .i64 (u:Int)/\∃(g:Nat)(vals:List Value),vals.getD u undef=.slice (some ⟨g,0,none⟩) m m/\NB w wx z ob n L St (Value.slice ao2 n2 cap2) (.slice ao3 k cap3) (AP a) vals ((Bq l u).set u (Cm l u 0)))
      case first J' K' hJR hMK=>
       have HMK:=Ab hMK;have HJR:=Ab hJR;clear hMK hJR;refine BZ hmx (R14 vl z ob n u m (w.heap.size+2) wr.heap.size) (fun vs=>{tmps:=(_::_::_::_::_::_::_::_::_::_::_::_::_::_::_::_::_::_::_::_::_::_::_::_::_::_::_::_::_::_::_::_::_::_::_::_::_::_::_::_::_::_::_::vs 0::vs 1::vs 2::vs 3::vs 4::vs 5::vs 6::_::_::_::_::_::_::_::_::_::_::_::_::_::_::_::_::_::_::_::_::_::_::_::[]).toArray,defers:=[]}) (fun n=>[u43,u44,u45,u46,u47,u48,u49].getD n undef) 7 rfl (by kernel_rfl) (by kernel_rfl) (R14.mono vl z ob n u m (w.heap.size+2) wr.heap.size) ?step14 ?last14
       case step14=>
        intro ix o hlt ho
        match ix,hlt,ho with
        |0,hlt,ho|2,hlt,ho|3,hlt,ho|6,hlt,ho=>
         obtain rfl:=osI ho;intro vs W K hB hD hK;have HK:=Ab hK
         try have e1:vs 1=(.slice (some ⟨ob,0,none⟩) n n):=Ac hD 1 rfl
         try have e2:vs 2=.int .i64 (u:Int):=Ac hD 2 rfl
         clear hK hD ho hlt;dsimp only;go_simp;have h:=HK.out _ _ Ad rfl;simp only[upd,Nat.reduceEqDiff,reduceIte, *]at h;exact h
        |1,hlt,ho=>
         obtain rfl:=osI ho;intro vs W K hB hD hK;have HK:=Ab hK;have e0:vs 0=.pointer (some ⟨z,5,none⟩):=Ac hD 0 rfl;have c5:W.cell? ⟨z,5,none⟩=some (.slice (some ⟨ob,0,none⟩) n n):=Aa 5 (HNW.out W hB).bd;clear hK hD ho hlt;dsimp only;go_simp;have h:=HK.out _ _ Ad rfl;simp only[upd,Nat.reduceEqDiff,reduceIte,e0]at h;exact h
        |4,hlt,ho=>
         obtain rfl:=osI ho;intro vs W K hB hD hK;have HK:=Ab hK;have e3:vs 3=vl:=Ac hD 3 rfl;clear hK hD ho hlt;dsimp only;go_simp;refine(HOu.out W (HNW.out W hB).bx).mono ?_;rintro e W' ⟨rfl,hb⟩;have h:=HK.out _ _ hb rfl;simp only[upd,Nat.reduceEqDiff,reduceIte,e3]at h;exact h
        |5,hlt,ho=>
         obtain rfl:=osI ho;intro vs W K hB hD hK;have HK:=Ab hK;have e4:vs 4=.int .i64 (m:Int):=Ac hD 4 rfl;clear hK hD ho hlt;dsimp only;go_simp;have h:=HK.out _ _ (Ap _) ⟨_,rfl,hB.size,I0 (heap_alloc_new _ _) (Nat.le_trans HNL.out hB.size) (by omega)⟩;simp only[upd,Nat.reduceEqDiff,reduceIte,e4]at h;exact h
        |q+7,hlt,ho=>omega
       case last14=>
        intro o ho;obtain rfl:=osI ho;intro vs W K hB hall hK;have HK:=Ab hK;obtain⟨g,e5,hg,ho5⟩:∃g,vs 5=.slice (some ⟨g,0,none⟩) m m/\wr.heap.size<=g/\OI W (w.heap.size+2) (vs 5) (List.replicate m 0):=hall 5 (by omega);have e6:vs 6=.pointer (some ⟨ob,u,none⟩):=hall 6 (by omega);rw[e5]at ho5;obtain⟨p1,p2,p3⟩:=(HNW.out wr.drew Ad).row (l:=List.replicate m 0) hltu hB ho5 (fun b e=>by cases e;exact hg);have HP3:=Ab p3;clear hK hall ho ho5;dsimp only;go_simp;refine HK.out _ _ ?_;show K' _ _;refine HMK.out _ _ (Met.intro (HJR.out _ _ ?_))
        (repeat apply Exists.intro)
        refine⟨?rel,rfl⟩
        case rel=>
         refine⟨rfl,g,_,Ay _ _ _ _ (by rw[(HNW.out wr.drew Ad).R.lv];exact hltu), ?_⟩;rw[G5,HMM.out];exact HP3.out
      case rest=>
       obtain⟨rfl,g,vals,hv,hN3⟩:=hcut;have c5:wc.cell? ⟨z,5,none⟩=some (.slice (some ⟨ob,0,none⟩) n n):=Aa 5 hN3.bd;have cu:=hN3.R.cell hltu;rw[hv]at cu;have HV:=Ab hv;have H3:=Ab hN3;clear hN3 hv;go_wp2;clear c5 cu
       go_loopg [56] m (fun gh i wr=>∃o:Nat,gh=m-o/\i=.int .i64 o/\o<=m/\NB w wr z ob n L St (Value.slice ao2 n2 cap2) (.slice ao3 k cap3) (AP a) vals ((Bq l u).set u (Cm l u o)))
       case atStart=>exact⟨0,rfl,rfl,by omega,H3.out⟩
       case round=>
        obtain⟨o,hgo,rfl,ho,hN4⟩:=hrel;have HGO:=Ab hgo;clear hgo
        by_cases hlto:o<m
        ·have HNW:Hid (∀W,Below wr.drew.heap.size wr.drew W->NB w W z ob n L St (Value.slice ao2 n2 cap2) (.slice ao3 k cap3) (AP a) vals ((Bq l u).set u (Cm l u o))):=fun W h=>hN4.below ((Below.drew (B:=wr.heap.size) Ad).trans h)
         have HRL:Hid ((Cm l u o).length=m):=by show _=_;rw[Is,HMM.out]
         clear hN4
         go_upto_region 18 with(fail)
         refine BZ hmx (R18 vl z ob n u m g o (AQ l (u:Int) (o:Int))) (fun vs=>{tmps:=(_::_::_::_::_::_::_::_::_::_::_::_::_::_::_::_::_::_::_::_::_::_::_::_::_::_::_::_::_::_::_::_::_::_::_::_::_::_::_::_::_::_::_::_::_::_::_::_::_::_::_::_::_::_::_::_::_::_::_::vs 0::vs 1::vs 2::vs 3::vs 4::vs 5::vs 6::vs 7::vs 8::vs 9::vs 10::_::_::_::[]).toArray,defers:=[]}) (fun n=>[u59,u60,u61,u62,u63,u64,u65,u66,u67,u68,u69].getD n undef) 11 rfl (by kernel_rfl) (by kernel_rfl) (R18.mono vl z ob n u m g o (AQ l (u:Int) (o:Int))) ?step18 ?last18
         case step18=>
          intro ix oo hlt ho
          match ix,hlt,ho with
          |0,hlt,ho|2,hlt,ho|3,hlt,ho|5,hlt,ho|6,hlt,ho|7,hlt,ho|8,hlt,ho|10,hlt,ho=>
           obtain rfl:=osI ho;intro vs W K hB hD hK;have HK:=Ab hK
           try have e1:vs 1=(.slice (some ⟨ob,0,none⟩) n n):=Ac hD 1 rfl
           try have e2:vs 2=.int .i64 (u:Int):=Ac hD 2 rfl
           try have e4:vs 4=.slice (some ⟨g,0,none⟩) m m:=Ac hD 4 rfl
           try have e5:vs 5=.int .i64 (o:Int):=Ac hD 5 rfl
           clear hK hD ho hlt;dsimp only;go_simp;have h:=HK.out _ _ Ad rfl;simp only[upd,Nat.reduceEqDiff,reduceIte, *]at h;exact h
          |1,hlt,ho=>
           obtain rfl:=osI ho;intro vs W K hB hD hK;have HK:=Ab hK;have e0:vs 0=.pointer (some ⟨z,5,none⟩):=Ac hD 0 rfl;have c5:W.cell? ⟨z,5,none⟩=some (.slice (some ⟨ob,0,none⟩) n n):=Aa 5 (HNW.out W hB).bd;clear hK hD ho hlt;dsimp only;go_simp;have h:=HK.out _ _ Ad rfl;simp only[upd,Nat.reduceEqDiff,reduceIte,e0]at h;exact h
          |4,hlt,ho=>
           obtain rfl:=osI ho;intro vs W K hB hD hK;have HK:=Ab hK;have e3:vs 3=.pointer (some ⟨ob,u,none⟩):=Ac hD 3 rfl;have cu:=(HNW.out W hB).R.cell hltu;rw[HV.out]at cu;clear hK hD ho hlt;dsimp only;go_simp;have h:=HK.out _ _ Ad rfl;simp only[upd,Nat.reduceEqDiff,reduceIte,e3]at h;exact h
          |9,hlt,ho=>
           obtain rfl:=osI ho;intro vs W K hB hD hK;have HK:=Ab hK;have e6:vs 6=vl:=Ac hD 6 rfl;have e7:vs 7=.int .i64 (u:Int):=Ac hD 7 rfl;have e8:vs 8=.int .i64 (o:Int):=Ac hD 8 rfl;clear hK hD ho hlt;dsimp only;go_simp;refine(HJn.out W u o (by omega) (by omega) (HNW.out W hB).bx).mono ?_;rintro e W' ⟨rfl,hb⟩;have h:=HK.out _ _ hb rfl;simp only[upd,Nat.reduceEqDiff,reduceIte,e6,e7,e8]at h;exact h
          |q+11,hlt,ho=>omega
         case last18=>
          intro oo ho;obtain rfl:=osI ho;intro vs W K hB hall hK;have HK:=Ab hK;have e9:vs 9=.int .i64 (AQ l (u:Int) (o:Int)):=hall 9 (by omega);have e10:vs 10=.pointer (some ⟨g,o,none⟩):=hall 10 (by omega);have hNN:=HNW.out W hB;have he:=hNN.R.e u hltu
          have hjl:u<(Bq l u).length:=by rw[HTL.out];exact hltu
          rw[HV.out,Ay _ _ _ _ hjl]at he;have c1:=he.at' HRL.out.symm o (by rw[HRL.out];exact hlto);have f1:=he.fz HRL.out.symm o;have p3:=hNN.elem hltu HV.out (by rw[Ay _ _ _ _ hjl,HRL.out]) o (AQ l (u:Int) (o:Int));rw[Ay _ _ _ _ hjl,List.set_set,It]at p3;have HP3:=Ab p3;clear hK hall ho p3 hNN he;dsimp only;go_simp;refine HK.out _ _ ?_;go_wp2
          go_roundg (m-(o+1))
          case measure=>have:=HGO.out;omega
          case rel=>exact⟨o+1,rfl,by go_num,by omega,HP3.out⟩
        ·have hom:o=m:=by omega
         have e:(Bq l u).set u (Cm l u o)=Bq l (u+1):=by rw[<-Ir,HMM.out,hom]
         rw[e]at hN4;go_wp2
         go_roundg (n-(u+1))
         case measure=>have:=HGU.out;omega
         case rel=>exact⟨u+1,vals,rfl,by go_num,by omega,hN4⟩
     ·obtain rfl:u=n:=by omega
      have c0:wr.cell? ⟨z,0,none⟩=some (.int .i64 L):=Aa 0 hN2.bd;have c1:wr.cell? ⟨z,1,none⟩=some (.int .i64 St):=Aa 1 hN2.bd;have c2:wr.cell? ⟨z,2,none⟩=some (Value.slice ao2 n2 cap2):=Aa 2 hN2.bd;have c3:wr.cell? ⟨z,3,none⟩=some (.slice ao3 k cap3):=Aa 3 hN2.bd;have c4:wr.cell? ⟨z,4,none⟩=some (.int .i64 (AP a)):=Aa 4 hN2.bd;have c5:wr.cell? ⟨z,5,none⟩=some (.slice (some ⟨ob,0,none⟩) u u):=Aa 5 hN2.bd;have r0:wr.cell? ⟨w.heap.size+1,0,none⟩=some (.int .i64 0):=Aa 0 hN2.rc;have q0:wr.frozen? ⟨w.heap.size+1,0,none⟩=false:=Aw 0 hN2.rc;have r1:wr.cell? ⟨w.heap.size+1,1,none⟩=some (.int .i64 0):=Aa 1 hN2.rc;have q1:wr.frozen? ⟨w.heap.size+1,1,none⟩=false:=Aw 1 hN2.rc;have r2:wr.cell? ⟨w.heap.size+1,2,none⟩=some (.slice none 0 0):=Aa 2 hN2.rc;have q2:wr.frozen? ⟨w.heap.size+1,2,none⟩=false:=Aw 2 hN2.rc;have r3:wr.cell? ⟨w.heap.size+1,3,none⟩=some (.slice none 0 0):=Aa 3 hN2.rc;have q3:wr.frozen? ⟨w.heap.size+1,3,none⟩=false:=Aw 3 hN2.rc;have r4:wr.cell? ⟨w.heap.size+1,4,none⟩=some (.int .i64 0):=Aa 4 hN2.rc;have q4:wr.frozen? ⟨w.heap.size+1,4,none⟩=false:=Aw 4 hN2.rc;have r5:wr.cell? ⟨w.heap.size+1,5,none⟩=some (.slice none 0 0):=Aa 5 hN2.rc;have q5:wr.frozen? ⟨w.heap.size+1,5,none⟩=false:=Aw 5 hN2.rc;have HN5:=Ab hN2;clear hN hN2;go_wp2;clear c0 c1 c2 c3 c4 c5 r0 r1 r2 r3 r4 r5 q0 q1 q2 q3 q4 q5;have S6:=Mi (d0:=(.int .i64 L)) (d1:=(.int .i64 St)) (d2:=(Value.slice ao2 n2 cap2)) (d3:=(.slice ao3 k cap3)) (d4:=(.int .i64 (AP a))) (d5:=(.slice (some ⟨ob,0,none⟩) u u)) HN5.out.rc;have O6:=Kv wr (w.heap.size+1) (.int .i64 L) (.int .i64 St) (Value.slice ao2 n2 cap2) (.slice ao3 k cap3) (.int .i64 (AP a)) (.slice (some ⟨ob,0,none⟩) u u);have B6:Below w.heap.size w ((((((wr.setCell ⟨w.heap.size+1,0,none⟩ (.int .i64 L)).setCell ⟨w.heap.size+1,1,none⟩ (.int .i64 St)).setCell ⟨w.heap.size+1,2,none⟩ (Value.slice ao2 n2 cap2)).setCell ⟨w.heap.size+1,3,none⟩ (.slice ao3 k cap3)).setCell ⟨w.heap.size+1,4,none⟩ (.int .i64 (AP a))).setCell ⟨w.heap.size+1,5,none⟩ (.slice (some ⟨ob,0,none⟩) u u)):=((((((HN5.out.bx.setCell (p:=⟨w.heap.size+1,0,none⟩) (by show w.heap.size<=w.heap.size+1;omega) _).setCell (p:=⟨w.heap.size+1,1,none⟩) (by show w.heap.size<=w.heap.size+1;omega) _).setCell (p:=⟨w.heap.size+1,2,none⟩) (by show w.heap.size<=w.heap.size+1;omega) _).setCell (p:=⟨w.heap.size+1,3,none⟩) (by show w.heap.size<=w.heap.size+1;omega) _).setCell (p:=⟨w.heap.size+1,4,none⟩) (by show w.heap.size<=w.heap.size+1;omega) _).setCell (p:=⟨w.heap.size+1,5,none⟩) (by show w.heap.size<=w.heap.size+1;omega) _);generalize((((((wr.setCell ⟨w.heap.size+1,0,none⟩ (.int .i64 L)).setCell ⟨w.heap.size+1,1,none⟩ (.int .i64 St)).setCell ⟨w.heap.size+1,2,none⟩ (Value.slice ao2 n2 cap2)).setCell ⟨w.heap.size+1,3,none⟩ (.slice ao3 k cap3)).setCell ⟨w.heap.size+1,4,none⟩ (.int .i64 (AP a))).setCell ⟨w.heap.size+1,5,none⟩ (.slice (some ⟨ob,0,none⟩) u u))=w9 at*;have HB6:=Ab B6
      have HR6:Hid (Ao w9 (.slice (some ⟨ob,0,none⟩) u u) (Al l)):=by
       have hob:=HN5.out.R.row.1;have h1:=HN5.out.R.only O6 (by omega) (fun j hj b hb=>by have:=(HN5.out.R.e j hj).ge b hb;omega);rw[show Bq l u=Al l from by rw[<-Ip,HNN.out]]at h1;exact h1.is (by omega) (fun j hj=>J4 HVS.out j (by rw[HNN.out];exact hj))
      clear O6 B6;refine bodyPost_ret (results_cell_row rfl _ _ (w.heap.size+1) _ _ _ _ rfl S6 Tryd.underlying76 (by rfl) (by rfl)) rfl ?_;exact⟨_,_,_,by rw[HLS.out.1,HLS.out.2],by rw[HLS.out.1,HLS.out.2],HR6.out,HB6.out⟩
end Go.Proofs.YtncjeamdkjcebaaDoor
