/- What Build computes: the walk of a right input. -/
import Derived.Test.YtncjeamdkjcebaaGreatDoorZAr16
set_option linter.all false
set_option maxHeartbeats 8000000
set_option maxRecDepth 100000
namespace Go.Proofs.YtncjeamdkjcebaaGreatDoor
open Go.RowKit Go.Shelf
attribute [local go_sem] Oper.semAt_some
def GOK(w:World)(vl:Value)(a:Au)(l:List Sig)(ao2 ao3:Option Addr)(n2 cap2 n3 cap3:Nat)(most:Int)(ix:Nat)(u:Value)(_:World):Prop:=
 match ix with
 |0|11=>u=vl
 |1|5=>u=.bool true
 |2|3|6|7|8|13|14|15|17|18|19|21|22=>u=.bool false
 |4=>u=.agg #[.int .i64 a.letters,.int .i64 a.start,.slice ao2 n2 cap2,.slice ao3 n3 cap3]
 |9=>u=.pointer (some ⟨w.heap.size,0,none⟩)
 |10=>u=.int .i64 a.letters
 |12=>u=.int .i64 (AC l)
 |16|20=>u=.int .i64 most
 | _=>True
def G12(a:Au)(l:List Sig)(ao2 ao3 aot:Option Addr)(n2 cap2 cap3 capt gp np capp k B:Nat)(y:T4)(ix:Nat)(u:Value)(W:World):Prop:=
 match ix with
 |0=>u=.agg #[.int .i64 a.letters,.int .i64 a.start,.slice ao2 n2 cap2,.slice ao3 n2 cap3,.int .i64 (AT a),.slice aot (Aq l).length capt]
 |1=>u=.slice (some ⟨gp,0,none⟩) np capp
 |2=>u=.int .i64 (k:Int)
 |3=>u=.pointer (some ⟨gp,k*3,none⟩)
 |4=>u=.agg #[.int .i64 y.st,.int .i64 y.inn,.int .i64 y.pr]
 |5=>∃x,u=.func (.func 112) #[] #[.pointer (some ⟨x+1,0,none⟩),.pointer (some ⟨x,0,none⟩)]/\B<=x/\W.heap[x]? =some (.cells #[.int .i64 a.letters,.int .i64 a.start,.slice ao2 n2 cap2,.slice ao3 n2 cap3,.int .i64 (AT a),.slice aot (Aq l).length capt] 105 (0,0))/\W.heap[x+1]? =some (.cells (plC y) 108 (0,0))
 | _=>True
theorem G12.mono{a:Au}{l:List Sig}{ao2 ao3 aot:Option Addr}{n2 cap2 cap3 capt gp np capp k B:Nat}{y:T4}(ix:Nat)(u:Value)(W W':World)(h:G12 a l ao2 ao3 aot n2 cap2 cap3 capt gp np capp k B y ix u W)(hb:Below W.heap.size W W'):G12 a l ao2 ao3 aot n2 cap2 cap3 capt gp np capp k B y ix u W':=by
 unfold G12 at*
 split at h<;>first|exact h|(obtain⟨o,h1,h2,h3,h4⟩:=h;exact⟨o,h1,h2,(hb.block o (ltE h3)).trans h3,Ae hb h4⟩)
theorem OP.some{w:World}{B n cap:Nat}{ao:Option Addr}{l:List T4}(h:OP w B (.slice ao n cap) l)(h0:0<l.length):∃g,ao=some ⟨g,0,none⟩:=by
 rcases h.2 with⟨_,h1⟩|⟨g,c,cur,h1,_⟩
 ·omega
 ·simp only[Value.slice.injEq]at h1;exact⟨g,h1.1⟩
def G22(a:Au)(l:List Sig)(ao2 ao3 aot:Option Addr)(n2 cap2 cap3 capt gp np capp k:Nat)(y:T4)(ix:Nat)(u:Value)(_:World):Prop:=
 match ix with
 |0=>u=.agg #[.int .i64 a.letters,.int .i64 a.start,.slice ao2 n2 cap2,.slice ao3 n2 cap3,.int .i64 (AT a),.slice aot (Aq l).length capt]
 |1=>u=.slice (some ⟨gp,0,none⟩) np capp
 |2=>u=.int .i64 (k:Int)
 |3=>u=.pointer (some ⟨gp,k*3,none⟩)
 |4=>u=.agg #[.int .i64 y.st,.int .i64 y.inn,.int .i64 y.pr]
 |5|6=>u=.tuple #[.int .i64 (D1 y),.int .i64 (D2 (AT a) y)]
 |7|9=>u=.int .i64 (D1 y)
 |8|10=>u=.int .i64 (D2 (AT a) y)
 | _=>True
def FT(a:Au)(l:List Sig)(most:Nat):Option (List T4):=J4 (AZ a (Aq l)) most (most+1) 0 [⟨a.start,-1,AT a⟩]
def Gc(a:Au)(l:List Sig)(r:Option (List T4))(w:World)(e:Ending)(w':World):Prop:=
 match r with
 |some pls=>∃vg vp,e=.returned (.tuple #[vg,vp,.int .i64 0])/\Cn w' vg (CQ (AZ a (Aq l)) (AT a) pls pls.length)/\Ct w' vp pls/\Below w.heap.size w w'
 |none=>e=.returned (.tuple #[.agg #[.slice none 0 0,.slice none 0 0,.slice none 0 0],.slice none 0 0,.int .i64 2])/\Below w.heap.size w w'
set_option maxRecDepth 100000
def FrB(vl:Value)(h zb zn k:Nat)(ds:List Deferred)(a':Act):Prop:=∃f:Nat->Value,a'={tmps:=(vl::f 1::f 2::f 3::.pointer (some ⟨h,0,none⟩)::.pointer (some ⟨h+1,0,none⟩)::.pointer (some ⟨h+1+1,0,none⟩)::.pointer (some ⟨h+1+1+1,0,none⟩)::.pointer (some ⟨h+1+1+1+1,0,none⟩)::.pointer (some ⟨zb,0,none⟩)::f 10::.pointer (some ⟨zb+2+1,0,none⟩)::.pointer (some ⟨zn,0,none⟩)::.pointer (some ⟨zn+1,0,none⟩)::.int .i64 (k:Int)::f 15::f 16::f 17::f 18::f 19::f 20::f 21::f 22::f 23::f 24::f 25::f 26::f 27::f 28::f 29::f 30::f 31::f 32::f 33::f 34::f 35::f 36::f 37::f 38::f 39::f 40::f 41::f 42::f 43::f 44::f 45::f 46::f 47::f 48::f 49::f 50::f 51::f 52::f 53::f 54::f 55::f 56::f 57::f 58::f 59::f 60::f 61::f 62::f 63::f 64::f 65::f 66::f 67::f 68::f 69::f 70::f 71::f 72::f 73::f 74::f 75::f 76::f 77::f 78::f 79::f 80::f 81::f 82::f 83::f 84::f 85::f 86::f 87::f 88::f 89::f 90::f 91::f 92::f 93::f 94::f 95::f 96::f 97::f 98::f 99::f 100::f 101::f 102::f 103::f 104::f 105::f 106::f 107::f 108::f 109::f 110::f 111::f 112::f 113::f 114::f 115::f 116::f 117::f 118::f 119::f 120::f 121::f 122::f 123::f 124::[]).toArray,defers:=ds}
theorem FrB.mk(vl:Value)(h zb zn k:Nat)(ds:List Deferred)(u1 u2 u3 u10 u15 u16 u17 u18 u19 u20 u21 u22 u23 u24 u25 u26 u27 u28 u29 u30 u31 u32 u33 u34 u35 u36 u37 u38 u39 u40 u41 u42 u43 u44 u45 u46 u47 u48 u49 u50 u51 u52 u53 u54 u55 u56 u57 u58 u59 u60 u61 u62 u63 u64 u65 u66 u67 u68 u69 u70 u71 u72 u73 u74 u75 u76 u77 u78 u79 u80 u81 u82 u83 u84 u85 u86 u87 u88 u89 u90 u91 u92 u93 u94 u95 u96 u97 u98 u99 u100 u101 u102 u103 u104 u105 u106 u107 u108 u109 u110 u111 u112 u113 u114 u115 u116 u117 u118 u119 u120 u121 u122 u123 u124:Value):FrB vl h zb zn k ds {tmps:=(vl::u1::u2::u3::.pointer (some ⟨h,0,none⟩)::.pointer (some ⟨h+1,0,none⟩)::.pointer (some ⟨h+1+1,0,none⟩)::.pointer (some ⟨h+1+1+1,0,none⟩)::.pointer (some ⟨h+1+1+1+1,0,none⟩)::.pointer (some ⟨zb,0,none⟩)::u10::.pointer (some ⟨zb+2+1,0,none⟩)::.pointer (some ⟨zn,0,none⟩)::.pointer (some ⟨zn+1,0,none⟩)::.int .i64 (k:Int)::u15::u16::u17::u18::u19::u20::u21::u22::u23::u24::u25::u26::u27::u28::u29::u30::u31::u32::u33::u34::u35::u36::u37::u38::u39::u40::u41::u42::u43::u44::u45::u46::u47::u48::u49::u50::u51::u52::u53::u54::u55::u56::u57::u58::u59::u60::u61::u62::u63::u64::u65::u66::u67::u68::u69::u70::u71::u72::u73::u74::u75::u76::u77::u78::u79::u80::u81::u82::u83::u84::u85::u86::u87::u88::u89::u90::u91::u92::u93::u94::u95::u96::u97::u98::u99::u100::u101::u102::u103::u104::u105::u106::u107::u108::u109::u110::u111::u112::u113::u114::u115::u116::u117::u118::u119::u120::u121::u122::u123::u124::[]).toArray,defers:=ds}:=⟨fun i=>(undef::u1::u2::u3::undef::undef::undef::undef::undef::undef::u10::undef::undef::undef::undef::u15::u16::u17::u18::u19::u20::u21::u22::u23::u24::u25::u26::u27::u28::u29::u30::u31::u32::u33::u34::u35::u36::u37::u38::u39::u40::u41::u42::u43::u44::u45::u46::u47::u48::u49::u50::u51::u52::u53::u54::u55::u56::u57::u58::u59::u60::u61::u62::u63::u64::u65::u66::u67::u68::u69::u70::u71::u72::u73::u74::u75::u76::u77::u78::u79::u80::u81::u82::u83::u84::u85::u86::u87::u88::u89::u90::u91::u92::u93::u94::u95::u96::u97::u98::u99::u100::u101::u102::u103::u104::u105::u106::u107::u108::u109::u110::u111::u112::u113::u114::u115::u116::u117::u118::u119::u120::u121::u122::u123::u124::[]).getD i undef,rfl⟩
theorem FrB.mk'{i:Int}(vl:Value)(h zb zn k:Nat)(ds:List Deferred)(u1 u2 u3 u10 u15 u16 u17 u18 u19 u20 u21 u22 u23 u24 u25 u26 u27 u28 u29 u30 u31 u32 u33 u34 u35 u36 u37 u38 u39 u40 u41 u42 u43 u44 u45 u46 u47 u48 u49 u50 u51 u52 u53 u54 u55 u56 u57 u58 u59 u60 u61 u62 u63 u64 u65 u66 u67 u68 u69 u70 u71 u72 u73 u74 u75 u76 u77 u78 u79 u80 u81 u82 u83 u84 u85 u86 u87 u88 u89 u90 u91 u92 u93 u94 u95 u96 u97 u98 u99 u100 u101 u102 u103 u104 u105 u106 u107 u108 u109 u110 u111 u112 u113 u114 u115 u116 u117 u118 u119 u120 u121 u122 u123 u124:Value)(hi:i=(k:Int)):FrB vl h zb zn k ds {tmps:=(vl::u1::u2::u3::.pointer (some ⟨h,0,none⟩)::.pointer (some ⟨h+1,0,none⟩)::.pointer (some ⟨h+1+1,0,none⟩)::.pointer (some ⟨h+1+1+1,0,none⟩)::.pointer (some ⟨h+1+1+1+1,0,none⟩)::.pointer (some ⟨zb,0,none⟩)::u10::.pointer (some ⟨zb+2+1,0,none⟩)::.pointer (some ⟨zn,0,none⟩)::.pointer (some ⟨zn+1,0,none⟩)::.int .i64 i::u15::u16::u17::u18::u19::u20::u21::u22::u23::u24::u25::u26::u27::u28::u29::u30::u31::u32::u33::u34::u35::u36::u37::u38::u39::u40::u41::u42::u43::u44::u45::u46::u47::u48::u49::u50::u51::u52::u53::u54::u55::u56::u57::u58::u59::u60::u61::u62::u63::u64::u65::u66::u67::u68::u69::u70::u71::u72::u73::u74::u75::u76::u77::u78::u79::u80::u81::u82::u83::u84::u85::u86::u87::u88::u89::u90::u91::u92::u93::u94::u95::u96::u97::u98::u99::u100::u101::u102::u103::u104::u105::u106::u107::u108::u109::u110::u111::u112::u113::u114::u115::u116::u117::u118::u119::u120::u121::u122::u123::u124::[]).toArray,defers:=ds}:=by
 subst hi;exact FrB.mk _ _ _ _ _ _ u1 u2 u3 u10 u15 u16 u17 u18 u19 u20 u21 u22 u23 u24 u25 u26 u27 u28 u29 u30 u31 u32 u33 u34 u35 u36 u37 u38 u39 u40 u41 u42 u43 u44 u45 u46 u47 u48 u49 u50 u51 u52 u53 u54 u55 u56 u57 u58 u59 u60 u61 u62 u63 u64 u65 u66 u67 u68 u69 u70 u71 u72 u73 u74 u75 u76 u77 u78 u79 u80 u81 u82 u83 u84 u85 u86 u87 u88 u89 u90 u91 u92 u93 u94 u95 u96 u97 u98 u99 u100 u101 u102 u103 u104 u105 u106 u107 u108 u109 u110 u111 u112 u113 u114 u115 u116 u117 u118 u119 u120 u121 u122 u123 u124
theorem FrB.elim{motive:Act->Prop}{vl:Value}{h zb zn k:Nat}{ds:List Deferred}{a':Act}(hf:FrB vl h zb zn k ds a')(hm:∀(u1 u2 u3 u10 u15 u16 u17 u18 u19 u20 u21 u22 u23 u24 u25 u26 u27 u28 u29 u30 u31 u32 u33 u34 u35 u36 u37 u38 u39 u40 u41 u42 u43 u44 u45 u46 u47 u48 u49 u50 u51 u52 u53 u54 u55 u56 u57 u58 u59 u60 u61 u62 u63 u64 u65 u66 u67 u68 u69 u70 u71 u72 u73 u74 u75 u76 u77 u78 u79 u80 u81 u82 u83 u84 u85 u86 u87 u88 u89 u90 u91 u92 u93 u94 u95 u96 u97 u98 u99 u100 u101 u102 u103 u104 u105 u106 u107 u108 u109 u110 u111 u112 u113 u114 u115 u116 u117 u118 u119 u120 u121 u122 u123 u124:Value),motive {tmps:=(vl::u1::u2::u3::.pointer (some ⟨h,0,none⟩)::.pointer (some ⟨h+1,0,none⟩)::.pointer (some ⟨h+1+1,0,none⟩)::.pointer (some ⟨h+1+1+1,0,none⟩)::.pointer (some ⟨h+1+1+1+1,0,none⟩)::.pointer (some ⟨zb,0,none⟩)::u10::.pointer (some ⟨zb+2+1,0,none⟩)::.pointer (some ⟨zn,0,none⟩)::.pointer (some ⟨zn+1,0,none⟩)::.int .i64 (k:Int)::u15::u16::u17::u18::u19::u20::u21::u22::u23::u24::u25::u26::u27::u28::u29::u30::u31::u32::u33::u34::u35::u36::u37::u38::u39::u40::u41::u42::u43::u44::u45::u46::u47::u48::u49::u50::u51::u52::u53::u54::u55::u56::u57::u58::u59::u60::u61::u62::u63::u64::u65::u66::u67::u68::u69::u70::u71::u72::u73::u74::u75::u76::u77::u78::u79::u80::u81::u82::u83::u84::u85::u86::u87::u88::u89::u90::u91::u92::u93::u94::u95::u96::u97::u98::u99::u100::u101::u102::u103::u104::u105::u106::u107::u108::u109::u110::u111::u112::u113::u114::u115::u116::u117::u118::u119::u120::u121::u122::u123::u124::[]).toArray,defers:=ds}):motive a':=by
 obtain⟨f,rfl⟩:=hf;exact hm (f 1) (f 2) (f 3) (f 10) (f 15) (f 16) (f 17) (f 18) (f 19) (f 20) (f 21) (f 22) (f 23) (f 24) (f 25) (f 26) (f 27) (f 28) (f 29) (f 30) (f 31) (f 32) (f 33) (f 34) (f 35) (f 36) (f 37) (f 38) (f 39) (f 40) (f 41) (f 42) (f 43) (f 44) (f 45) (f 46) (f 47) (f 48) (f 49) (f 50) (f 51) (f 52) (f 53) (f 54) (f 55) (f 56) (f 57) (f 58) (f 59) (f 60) (f 61) (f 62) (f 63) (f 64) (f 65) (f 66) (f 67) (f 68) (f 69) (f 70) (f 71) (f 72) (f 73) (f 74) (f 75) (f 76) (f 77) (f 78) (f 79) (f 80) (f 81) (f 82) (f 83) (f 84) (f 85) (f 86) (f 87) (f 88) (f 89) (f 90) (f 91) (f 92) (f 93) (f 94) (f 95) (f 96) (f 97) (f 98) (f 99) (f 100) (f 101) (f 102) (f 103) (f 104) (f 105) (f 106) (f 107) (f 108) (f 109) (f 110) (f 111) (f 112) (f 113) (f 114) (f 115) (f 116) (f 117) (f 118) (f 119) (f 120) (f 121) (f 122) (f 123) (f 124)
def FrI(vl:Value)(h zb zn zS zt:Nat)(a':Act):Prop:=∃f:Nat->Value,a'={tmps:=(vl::f 1::f 2::f 3::.pointer (some ⟨h,0,none⟩)::.pointer (some ⟨h+1,0,none⟩)::.pointer (some ⟨h+1+1,0,none⟩)::.pointer (some ⟨h+1+1+1,0,none⟩)::.pointer (some ⟨h+1+1+1+1,0,none⟩)::.pointer (some ⟨zb,0,none⟩)::f 10::.pointer (some ⟨zb+2+1,0,none⟩)::.pointer (some ⟨zn,0,none⟩)::.pointer (some ⟨zn+1,0,none⟩)::f 14::.pointer (some ⟨zS,0,none⟩)::.pointer (some ⟨zt,0,none⟩)::f 17::f 18::f 19::f 20::f 21::f 22::f 23::f 24::f 25::f 26::f 27::f 28::f 29::f 30::f 31::f 32::f 33::f 34::f 35::f 36::f 37::f 38::f 39::f 40::f 41::f 42::f 43::f 44::f 45::f 46::f 47::f 48::f 49::f 50::f 51::f 52::f 53::f 54::f 55::f 56::f 57::f 58::f 59::f 60::f 61::f 62::f 63::f 64::f 65::f 66::f 67::f 68::f 69::f 70::f 71::f 72::f 73::f 74::f 75::f 76::f 77::f 78::f 79::f 80::f 81::f 82::f 83::f 84::f 85::f 86::f 87::f 88::f 89::f 90::f 91::f 92::f 93::f 94::f 95::f 96::f 97::f 98::f 99::f 100::f 101::f 102::f 103::f 104::f 105::f 106::f 107::f 108::f 109::f 110::f 111::f 112::f 113::f 114::f 115::f 116::f 117::f 118::f 119::f 120::f 121::f 122::f 123::f 124::[]).toArray,defers:=[]}
theorem FrI.mk(vl:Value)(h zb zn zS zt:Nat)(u1 u2 u3 u10 u14 u17 u18 u19 u20 u21 u22 u23 u24 u25 u26 u27 u28 u29 u30 u31 u32 u33 u34 u35 u36 u37 u38 u39 u40 u41 u42 u43 u44 u45 u46 u47 u48 u49 u50 u51 u52 u53 u54 u55 u56 u57 u58 u59 u60 u61 u62 u63 u64 u65 u66 u67 u68 u69 u70 u71 u72 u73 u74 u75 u76 u77 u78 u79 u80 u81 u82 u83 u84 u85 u86 u87 u88 u89 u90 u91 u92 u93 u94 u95 u96 u97 u98 u99 u100 u101 u102 u103 u104 u105 u106 u107 u108 u109 u110 u111 u112 u113 u114 u115 u116 u117 u118 u119 u120 u121 u122 u123 u124:Value):FrI vl h zb zn zS zt {tmps:=(vl::u1::u2::u3::.pointer (some ⟨h,0,none⟩)::.pointer (some ⟨h+1,0,none⟩)::.pointer (some ⟨h+1+1,0,none⟩)::.pointer (some ⟨h+1+1+1,0,none⟩)::.pointer (some ⟨h+1+1+1+1,0,none⟩)::.pointer (some ⟨zb,0,none⟩)::u10::.pointer (some ⟨zb+2+1,0,none⟩)::.pointer (some ⟨zn,0,none⟩)::.pointer (some ⟨zn+1,0,none⟩)::u14::.pointer (some ⟨zS,0,none⟩)::.pointer (some ⟨zt,0,none⟩)::u17::u18::u19::u20::u21::u22::u23::u24::u25::u26::u27::u28::u29::u30::u31::u32::u33::u34::u35::u36::u37::u38::u39::u40::u41::u42::u43::u44::u45::u46::u47::u48::u49::u50::u51::u52::u53::u54::u55::u56::u57::u58::u59::u60::u61::u62::u63::u64::u65::u66::u67::u68::u69::u70::u71::u72::u73::u74::u75::u76::u77::u78::u79::u80::u81::u82::u83::u84::u85::u86::u87::u88::u89::u90::u91::u92::u93::u94::u95::u96::u97::u98::u99::u100::u101::u102::u103::u104::u105::u106::u107::u108::u109::u110::u111::u112::u113::u114::u115::u116::u117::u118::u119::u120::u121::u122::u123::u124::[]).toArray,defers:=[]}:=⟨fun i=>(undef::u1::u2::u3::undef::undef::undef::undef::undef::undef::u10::undef::undef::undef::u14::undef::undef::u17::u18::u19::u20::u21::u22::u23::u24::u25::u26::u27::u28::u29::u30::u31::u32::u33::u34::u35::u36::u37::u38::u39::u40::u41::u42::u43::u44::u45::u46::u47::u48::u49::u50::u51::u52::u53::u54::u55::u56::u57::u58::u59::u60::u61::u62::u63::u64::u65::u66::u67::u68::u69::u70::u71::u72::u73::u74::u75::u76::u77::u78::u79::u80::u81::u82::u83::u84::u85::u86::u87::u88::u89::u90::u91::u92::u93::u94::u95::u96::u97::u98::u99::u100::u101::u102::u103::u104::u105::u106::u107::u108::u109::u110::u111::u112::u113::u114::u115::u116::u117::u118::u119::u120::u121::u122::u123::u124::[]).getD i undef,rfl⟩
theorem FrI.elim{motive:Act->Prop}{vl:Value}{h zb zn zS zt:Nat}{a':Act}(hf:FrI vl h zb zn zS zt a')(hm:∀(u1 u2 u3 u10 u14 u17 u18 u19 u20 u21 u22 u23 u24 u25 u26 u27 u28 u29 u30 u31 u32 u33 u34 u35 u36 u37 u38 u39 u40 u41 u42 u43 u44 u45 u46 u47 u48 u49 u50 u51 u52 u53 u54 u55 u56 u57 u58 u59 u60 u61 u62 u63 u64 u65 u66 u67 u68 u69 u70 u71 u72 u73 u74 u75 u76 u77 u78 u79 u80 u81 u82 u83 u84 u85 u86 u87 u88 u89 u90 u91 u92 u93 u94 u95 u96 u97 u98 u99 u100 u101 u102 u103 u104 u105 u106 u107 u108 u109 u110 u111 u112 u113 u114 u115 u116 u117 u118 u119 u120 u121 u122 u123 u124:Value),motive {tmps:=(vl::u1::u2::u3::.pointer (some ⟨h,0,none⟩)::.pointer (some ⟨h+1,0,none⟩)::.pointer (some ⟨h+1+1,0,none⟩)::.pointer (some ⟨h+1+1+1,0,none⟩)::.pointer (some ⟨h+1+1+1+1,0,none⟩)::.pointer (some ⟨zb,0,none⟩)::u10::.pointer (some ⟨zb+2+1,0,none⟩)::.pointer (some ⟨zn,0,none⟩)::.pointer (some ⟨zn+1,0,none⟩)::u14::.pointer (some ⟨zS,0,none⟩)::.pointer (some ⟨zt,0,none⟩)::u17::u18::u19::u20::u21::u22::u23::u24::u25::u26::u27::u28::u29::u30::u31::u32::u33::u34::u35::u36::u37::u38::u39::u40::u41::u42::u43::u44::u45::u46::u47::u48::u49::u50::u51::u52::u53::u54::u55::u56::u57::u58::u59::u60::u61::u62::u63::u64::u65::u66::u67::u68::u69::u70::u71::u72::u73::u74::u75::u76::u77::u78::u79::u80::u81::u82::u83::u84::u85::u86::u87::u88::u89::u90::u91::u92::u93::u94::u95::u96::u97::u98::u99::u100::u101::u102::u103::u104::u105::u106::u107::u108::u109::u110::u111::u112::u113::u114::u115::u116::u117::u118::u119::u120::u121::u122::u123::u124::[]).toArray,defers:=[]}):motive a':=by
 obtain⟨f,rfl⟩:=hf;exact hm (f 1) (f 2) (f 3) (f 10) (f 14) (f 17) (f 18) (f 19) (f 20) (f 21) (f 22) (f 23) (f 24) (f 25) (f 26) (f 27) (f 28) (f 29) (f 30) (f 31) (f 32) (f 33) (f 34) (f 35) (f 36) (f 37) (f 38) (f 39) (f 40) (f 41) (f 42) (f 43) (f 44) (f 45) (f 46) (f 47) (f 48) (f 49) (f 50) (f 51) (f 52) (f 53) (f 54) (f 55) (f 56) (f 57) (f 58) (f 59) (f 60) (f 61) (f 62) (f 63) (f 64) (f 65) (f 66) (f 67) (f 68) (f 69) (f 70) (f 71) (f 72) (f 73) (f 74) (f 75) (f 76) (f 77) (f 78) (f 79) (f 80) (f 81) (f 82) (f 83) (f 84) (f 85) (f 86) (f 87) (f 88) (f 89) (f 90) (f 91) (f 92) (f 93) (f 94) (f 95) (f 96) (f 97) (f 98) (f 99) (f 100) (f 101) (f 102) (f 103) (f 104) (f 105) (f 106) (f 107) (f 108) (f 109) (f 110) (f 111) (f 112) (f 113) (f 114) (f 115) (f 116) (f 117) (f 118) (f 119) (f 120) (f 121) (f 122) (f 123) (f 124)
theorem OW(w:World)(vl va:Value)(l:List Sig)(a:Au)(most:Nat)(hK:BN w)(hl:AH w vl l)(ha:Cm w va a)(hv:At l=true)(h1:AF a=true)(h2:(a.letters !=AC l)=false)(h3:decide ((most:Int)<1)=false)(h4:decide (3000<(most:Int))=false):
  Calls Tryz.prog 37 #[vl,va,.int .i64 (most:Int)] w (Gc a l (FT a l most) w):=by
 have HS:Hid (∀W,Below w.heap.size w W->Calls Tryz.prog 41 #[vl] W (Av (.bool (At l)) W)):=fun W h=>by
  refine(Cv W _ l (hK.below h) (hl.below h)).mono ?_;rintro e W' ⟨rfl,n,rfl⟩;exact⟨rfl,Am _ _ _⟩
 have HA:Hid (∀W,Below w.heap.size w W->Calls Tryz.prog 73 #[va] W (Av (.bool (AF a)) W)):=fun W h=>H8 W _ a (ha.below h)
 have HLt:Hid (∀W,Below w.heap.size w W->Calls Tryz.prog 67 #[vl] W (Av (.int .i64 (AC l)) W)):=fun W h=>D9 W _ l (hK.below h) (hl.below h)
 have HNB:Hid (∀W,Below w.heap.size w W->Calls Tryz.prog 74 #[vl,va] W (Gb va a l W)):=fun W h=>MG W _ _ l a (hK.below h) (hl.below h) (ha.below h) hv
 have HAU:=Ab (fun(W:World)(h:Below w.heap.size w W)=>ha.below h)
 have he:a.letters=AC l:=by simpa using h2
 have HOK:=Ab (T0 hv h1 he);have HVA:=Ab h1
 have hm1:1<=most:=by have:=of_decide_eq_false h3;omega
 have hm3:most<=3000:=by have:=of_decide_eq_false h4;omega
 have HST:Hid (0<=a.start/\a.start<a.next.length):=by
  have:=h1;simp only[AF,Bool.and_eq_true,decide_eq_true_eq]at this;exact this.1.2
 have hPL:a.prio.length=a.next.length:=HOK.out.pl;have HW0:Hid (WfP ⟨a.start,-1,AT a⟩):=(LS h1 HOK.out).2;have HP0:Hid (Hl a (Aq l) ⟨a.start,-1,AT a⟩/\PlW ⟨a.start,-1,AT a⟩):=(LS h1 HOK.out).1;have HTB:Hid (1<=(Aq l).length/\(Aq l).length<=64):=HOK.out.t;rw[hv]at HS;rw[h1]at HA;clear he hv h1;obtain⟨ao,cap,b,off,rfl,-⟩:=hl;obtain⟨vv2,vv3,rfl,-,⟨V2,⟨ao2,cap2,b2,off2,rfl,-⟩,-⟩,⟨V3,⟨ao3,cap3,b3,off3,rfl,-⟩,-⟩⟩:=ha;have HPL:=Ab hPL;rw[hPL]at HNB HA HAU⊢;clear hPL;obtain⟨vl,hvl⟩:∃vl,vl=Value.slice ao l.length cap:=⟨_,rfl⟩;rw[<-hvl]at HS HLt HNB⊢;obtain⟨n2,hn2⟩:∃n2,n2=a.next.length:=⟨_,rfl⟩;rw[<-hn2]at HNB HA HAU⊢;obtain⟨n3,hn3⟩:∃n3,n3=n2:=⟨_,rfl⟩
 have hmx:Tryz.prog.follows .mixedOrders=true:=by kernel_rfl
 have HN2:=Ab hn2;clear hK hvl hn2 hn3 n3;obtain⟨mst,hmst⟩:∃mst,mst=most:=⟨_,rfl⟩;refine callsIn_wide (n:=5)|>.1 ?_;refine Bu Tryz.func37 rfl trivial ?_;simp only[Tryz.ntmps37,List.size_toArray,List.length_cons,List.length_nil,Nat.reduceAdd,Nat.reduceSub,Array.replicate_succ,Array.replicate_zero,List.push_toArray,List.append_toArray,List.nil_append,List.cons_append]
 gi_wp2
 clear hmst mst;have hbx:Below w.heap.size w (((((w.alloc (.cells #[.int .i64 a.letters,.int .i64 a.start,.slice ao2 n2 cap2,.slice ao3 n2 cap3] 63)).alloc (.cells #[.int .i64 most] 3)).alloc (.cells #[.slice none 0 0,.slice none 0 0,.slice none 0 0] 65)).alloc (.cells #[.slice none 0 0] 66)).alloc (.cells #[.int .i64 0] 39)):=(by repeat(first|exact Ad|assumption|apply AD|apply AE));have hpa:(((((w.alloc (.cells #[.int .i64 a.letters,.int .i64 a.start,.slice ao2 n2 cap2,.slice ao3 n2 cap3] 63)).alloc (.cells #[.int .i64 most] 3)).alloc (.cells #[.slice none 0 0,.slice none 0 0,.slice none 0 0] 65)).alloc (.cells #[.slice none 0 0] 66)).alloc (.cells #[.int .i64 0] 39)).heap[w.heap.size]? =some (.cells #[.int .i64 a.letters,.int .i64 a.start,.slice ao2 n2 cap2,.slice ao3 n2 cap3] 63 (0,0)):=(by(repeat(rw[Al];first|rw[if_pos (by first|simp;done|simp;omega)]|rw[if_neg (by first|simp;done|simp;omega)]));(try rfl));have hpm:(((((w.alloc (.cells #[.int .i64 a.letters,.int .i64 a.start,.slice ao2 n2 cap2,.slice ao3 n2 cap3] 63)).alloc (.cells #[.int .i64 most] 3)).alloc (.cells #[.slice none 0 0,.slice none 0 0,.slice none 0 0] 65)).alloc (.cells #[.slice none 0 0] 66)).alloc (.cells #[.int .i64 0] 39)).heap[w.heap.size+1]? =some (.cells #[.int .i64 most] 3 (0,0)):=(by(repeat(rw[Al];first|rw[if_pos (by first|simp;done|simp;omega)]|rw[if_neg (by first|simp;done|simp;omega)]));(try rfl));have hpg:(((((w.alloc (.cells #[.int .i64 a.letters,.int .i64 a.start,.slice ao2 n2 cap2,.slice ao3 n2 cap3] 63)).alloc (.cells #[.int .i64 most] 3)).alloc (.cells #[.slice none 0 0,.slice none 0 0,.slice none 0 0] 65)).alloc (.cells #[.slice none 0 0] 66)).alloc (.cells #[.int .i64 0] 39)).heap[w.heap.size+1+1]? =some (.cells #[.slice none 0 0,.slice none 0 0,.slice none 0 0] 65 (0,0)):=(by(repeat(rw[Al];first|rw[if_pos (by first|simp;done|simp;omega)]|rw[if_neg (by first|simp;done|simp;omega)]));(try rfl));have hpp:(((((w.alloc (.cells #[.int .i64 a.letters,.int .i64 a.start,.slice ao2 n2 cap2,.slice ao3 n2 cap3] 63)).alloc (.cells #[.int .i64 most] 3)).alloc (.cells #[.slice none 0 0,.slice none 0 0,.slice none 0 0] 65)).alloc (.cells #[.slice none 0 0] 66)).alloc (.cells #[.int .i64 0] 39)).heap[w.heap.size+1+1+1]? =some (.cells #[.slice none 0 0] 66 (0,0)):=(by(repeat(rw[Al];first|rw[if_pos (by first|simp;done|simp;omega)]|rw[if_neg (by first|simp;done|simp;omega)]));(try rfl));have hpe:(((((w.alloc (.cells #[.int .i64 a.letters,.int .i64 a.start,.slice ao2 n2 cap2,.slice ao3 n2 cap3] 63)).alloc (.cells #[.int .i64 most] 3)).alloc (.cells #[.slice none 0 0,.slice none 0 0,.slice none 0 0] 65)).alloc (.cells #[.slice none 0 0] 66)).alloc (.cells #[.int .i64 0] 39)).heap[w.heap.size+1+1+1+1]? =some (.cells #[.int .i64 0] 39 (0,0)):=(by(repeat(rw[Al];first|rw[if_pos (by first|simp;done|simp;omega)]|rw[if_neg (by first|simp;done|simp;omega)]));(try rfl));generalize(((((w.alloc (.cells #[.int .i64 a.letters,.int .i64 a.start,.slice ao2 n2 cap2,.slice ao3 n2 cap3] 63)).alloc (.cells #[.int .i64 most] 3)).alloc (.cells #[.slice none 0 0,.slice none 0 0,.slice none 0 0] 65)).alloc (.cells #[.slice none 0 0] 66)).alloc (.cells #[.int .i64 0] 39))=w5 at*;have hsz:=(ltE hpe)
 have HB1:Hid (∀W,Below w5.drew.heap.size w5.drew W->Below w.heap.size w W):=fun W h=>hbx.trans (((Below.drew Ad).trans h).mono hbx.size)
 have HPX:Hid (∀W,Below w5.drew.heap.size w5.drew W->Below w5.heap.size w5 W):=fun W h=>(Below.drew (B:=w5.heap.size) Ad).trans h
 have HPA:Hid (∀W,Below w5.drew.heap.size w5.drew W->W.cell? ⟨w.heap.size,0,none⟩=some (.int .i64 a.letters)/\W.cell? ⟨w.heap.size,1,none⟩=some (.int .i64 a.start)/\W.cell? ⟨w.heap.size,2,none⟩=some (.slice ao2 n2 cap2)/\W.cell? ⟨w.heap.size,3,none⟩=some (.slice ao3 n2 cap3)):=fun W h=>by
  have k:=((HPX.out W h).block _ (by omega)).trans hpa;exact⟨Aa 0 k,Aa 1 k,Aa 2 k,Aa 3 k⟩
 have HPM:Hid (∀W,Below w5.drew.heap.size w5.drew W->W.cell? ⟨w.heap.size+1,0,none⟩=some (.int .i64 most)):=fun W h=>cell_of_row W (w.heap.size+1) 0 _ _ _ (((HPX.out W h).block _ (by omega)).trans hpm)
 have HPG:Hid (∀W,Below w5.heap.size w5 W->(W.heap[w.heap.size]? =some (.cells #[.int .i64 a.letters,.int .i64 a.start,.slice ao2 n2 cap2,.slice ao3 n2 cap3] 63 (0,0))/\W.heap[w.heap.size+1]? =some (.cells #[.int .i64 most] 3 (0,0)))/\W.heap[w.heap.size+1+1]? =some (.cells #[.slice none 0 0,.slice none 0 0,.slice none 0 0] 65 (0,0))/\W.heap[w.heap.size+1+1+1]? =some (.cells #[.slice none 0 0] 66 (0,0))/\W.heap[w.heap.size+1+1+1+1]? =some (.cells #[.int .i64 0] 39 (0,0))):=fun W h=>⟨⟨(h.block _ (by omega)).trans hpa,(h.block _ (by omega)).trans hpm⟩,(h.block _ (by omega)).trans hpg,(h.block _ (by omega)).trans hpp,(h.block _ (by omega)).trans hpe⟩
 clear hpa hpm hpg hpp hpe;refine Dv hmx (GOK w vl a l ao2 ao3 n2 cap2 n2 cap3 most) (fun vs=>{tmps:=(_::_::_::_::_::_::_::_::_::_::_::_::_::_::_::_::_::_::_::_::_::vs 0::vs 1::vs 2::vs 3::vs 4::vs 5::vs 6::vs 7::vs 8::vs 9::vs 10::vs 11::vs 12::vs 13::vs 14::vs 15::vs 16::vs 17::vs 18::vs 19::vs 20::vs 21::vs 22::_::_::_::_::_::_::_::_::_::_::_::_::_::_::_::_::_::_::_::_::_::_::_::_::_::_::_::_::_::_::_::_::_::_::_::_::_::_::_::_::_::_::_::_::_::_::_::_::_::_::_::_::_::_::_::_::_::_::_::_::_::_::_::_::_::_::_::_::_::_::_::_::_::_::_::_::_::_::_::_::_::[]).toArray,defers:=[]}) (fun _=>undef) rfl (by kernel_rfl) (fun _ _ _ _ h _=>h) ?step ?fin
 case step=>
  intro ix o ho
  match ix,ho with
  |0,ho|2,ho|3,ho|6,ho|7,ho|8,ho|9,ho|11,ho|13,ho|14,ho|15,ho|17,ho|18,ho|19,ho|21,ho|22,ho=>
    obtain rfl:=osI ho;intro vs W K hB hD hK;have HK:=Ab hK
    try have e1:vs 1=.bool true:=Ac hD 1 rfl
    try have e2:vs 2=.bool false:=Ac hD 2 rfl
    try have e3:vs 3=.bool false:=Ac hD 3 rfl
    try have e5:vs 5=.bool true:=Ac hD 5 rfl
    try have e6:vs 6=.bool false:=Ac hD 6 rfl
    try have e7:vs 7=.bool false:=Ac hD 7 rfl
    try have e8:vs 8=.bool false:=Ac hD 8 rfl
    try have e10:vs 10=.int .i64 a.letters:=Ac hD 10 rfl
    try have e12:vs 12=.int .i64 (AC l):=Ac hD 12 rfl
    try have e13:vs 13=.bool false:=Ac hD 13 rfl
    try have e14:vs 14=.bool false:=Ac hD 14 rfl
    try have e15:vs 15=.bool false:=Ac hD 15 rfl
    try have e16:vs 16=.int .i64 most:=Ac hD 16 rfl
    try have e17:vs 17=.bool false:=Ac hD 17 rfl
    try have e18:vs 18=.bool false:=Ac hD 18 rfl
    try have e19:vs 19=.bool false:=Ac hD 19 rfl
    try have e20:vs 20=.int .i64 most:=Ac hD 20 rfl
    try have e21:vs 21=.bool false:=Ac hD 21 rfl
    clear hK hD ho;dsimp only;go_simp;have h:=HK.out _ _ Ad rfl;simp only[upd,Nat.reduceEqDiff,reduceIte, *]at h;exact h
  |1,ho=>
    obtain rfl:=osI ho;intro vs W K hB hD hK;have HK:=Ab hK;have e0:vs 0=vl:=Ac hD 0 rfl;clear hK hD ho;dsimp only;go_simp;refine⟨trivial, ?_⟩;refine(callsIn_wide.2 (HS.out W (HB1.out W hB))).mono ?_;rintro e W' ⟨rfl,hb⟩;have h:=HK.out _ _ hb rfl;simp only[upd,Nat.reduceEqDiff,reduceIte,e0]at h;exact h
  |4,ho|10,ho=>
    obtain rfl:=osI ho;intro vs W K hB hD hK;have HK:=Ab hK
    try have e3:vs 3=.bool false:=Ac hD 3 rfl
    try have e8:vs 8=.bool false:=Ac hD 8 rfl
    try have e9:vs 9=.pointer (some ⟨w.heap.size,0,none⟩):=Ac hD 9 rfl
    obtain⟨d0,d1,d2,d3⟩:=HPA.out W hB;clear hK hD ho;dsimp only;go_simp;have h:=HK.out _ _ Ad rfl;simp only[upd,Nat.reduceEqDiff,reduceIte, *]at h;exact h
  |5,ho=>
    obtain rfl:=osI ho;intro vs W K hB hD hK;have HK:=Ab hK;have e3:vs 3=.bool false:=Ac hD 3 rfl;have e4:vs 4=.agg #[.int .i64 a.letters,.int .i64 a.start,.slice ao2 n2 cap2,.slice ao3 n2 cap3]:=Ac hD 4 rfl;clear hK hD ho;dsimp only;go_simp;refine⟨trivial, ?_⟩;refine(callsIn_wide.2 (HA.out W (HB1.out W hB))).mono ?_;rintro e W' ⟨rfl,hb⟩;have h:=HK.out _ _ hb rfl;simp only[upd,Nat.reduceEqDiff,reduceIte,e3,e4]at h;exact h
  |12,ho=>
    obtain rfl:=osI ho;intro vs W K hB hD hK;have HK:=Ab hK;have e8:vs 8=.bool false:=Ac hD 8 rfl;have e11:vs 11=vl:=Ac hD 11 rfl;clear hK hD ho;dsimp only;go_simp;refine⟨trivial, ?_⟩;refine(callsIn_wide.2 (HLt.out W (HB1.out W hB))).mono ?_;rintro e W' ⟨rfl,hb⟩;have h:=HK.out _ _ hb rfl;simp only[upd,Nat.reduceEqDiff,reduceIte,e8,e11]at h;exact h
  |16,ho|20,ho=>
    obtain rfl:=osI ho;intro vs W K hB hD hK;have HK:=Ab hK
    try have e15:vs 15=.bool false:=Ac hD 15 rfl
    try have e19:vs 19=.bool false:=Ac hD 19 rfl
    have d5:=HPM.out W hB;clear hK hD ho;dsimp only;go_simp;have h:=HK.out _ _ Ad rfl;simp only[upd,Nat.reduceEqDiff,reduceIte, *]at h;exact h
  |q+23,ho=>exact absurd ho (by simp)
 case fin=>
  intro vs w6 hB hall;have e22:vs 22=.bool false:=hall 22 (by decide);have hB6:=HB1.out w6 hB;have hX6:=HPX.out w6 hB;clear hall hB HPX HPA HPM HB1 HS HA HLt;rw[e22];clear e22;obtain⟨⟨ga,gm⟩,gg,gp,ge⟩:=HPG.out w6 hX6;have c0:=Aa 0 ga;have c1:=Aa 1 ga;have c2:=Aa 2 ga;have c3:=Aa 3 ga
  gi_wp2_with fail
  refine⟨trivial, ?_⟩;refine(callsIn_wide.2 (HNB.out w6 hB6)).mono ?_;rintro e w7 ⟨v2,v3,vt,ev,rfl,hT7,hb7⟩;have hau:=(HAU.out w6 hB6).below hb7;obtain⟨x2,x3,ex,-,hn7,hp7⟩:=hau;simp only[Value.agg.injEq,Array.mk.injEq,List.cons.injEq,true_and,and_true]at ev ex;obtain⟨rfl,rfl⟩:=ev;obtain⟨rfl,rfl⟩:=ex;have hTr:=hT7;obtain⟨VT,⟨aot,capt,bt,offt,rfl,-⟩,-⟩:=hTr;have hX7:=hX6.trans (hb7.mono hX6.size);have hB7:=hB6.trans (hb7.mono hB6.size);clear c0 c1 c2 c3 ga gm gg gp ge hb7 HNB HAU hB6 hX6
  have hz7:w.heap.size+5<=w7.heap.size:=by have:=hX7.size;omega
  gi_upto_region 4 with(fail)
  generalize hbo:Obj.cells #[Value.int IntKind.i64 a.letters,Value.int IntKind.i64 a.start,Value.slice ao2 n2 cap2,Value.slice ao3 n2 cap3,Value.int IntKind.i64 (AT a),Value.slice aot (Aq l).length capt] 105=bo at*;have hb8:Below w7.heap.size w7 (w7.alloc bo):=Ao _;have hX8:=hX7.trans (hb8.mono hX7.size);have hbb:(w7.alloc bo).heap[w7.heap.size]? =some bo:=heap_alloc_new _ _
  have hz8:(w7.alloc bo).heap.size=w7.heap.size+1:=by simp
  have hB8:=hB7.trans (hb8.mono hB7.size);replace hn7:=hn7.below hb8;replace hp7:=hp7.below hb8;replace hT7:=hT7.below hb8;generalize w7.alloc bo=w8 at*;rw[<-hbo]at hbb;clear hb8 hB7 hX7 hbo bo;generalize w7.heap.size=zb at*;have cs:=Aa 1 (HPG.out w8 hX8).1.1;have ct:=Aa 4 hbb
  gi_upto_region 5 with(fail)
  generalize vs 0=q0,vs 1=q1,vs 2=q2,vs 3=q3,vs 4=q4,vs 5=q5,vs 6=q6,vs 7=q7,vs 8=q8,vs 9=q9,vs 10=q10,vs 11=q11,vs 12=q12,vs 13=q13,vs 14=q14,vs 15=q15,vs 16=q16,vs 17=q17,vs 18=q18,vs 19=q19,vs 20=q20,vs 21=q21;clear vs cs ct;have hb9:Below w8.heap.size w8 (w8.alloc (Obj.cells #[Value.int IntKind.i64 a.start,Value.int IntKind.i64 (-1),Value.int IntKind.i64 (AT a)] 108)):=Ao _;have hX9:=hX8.trans (hb9.mono hX8.size)
  have hbs:(w8.alloc (Obj.cells #[Value.int IntKind.i64 a.start,Value.int IntKind.i64 (-1),Value.int IntKind.i64 (AT a)] 108)).heap[zb+1]? =some (Obj.cells #[Value.int IntKind.i64 a.start,Value.int IntKind.i64 (-1),Value.int IntKind.i64 (AT a)] 108):=by rw[<-hz8];exact heap_alloc_new _ _
  have hz9:(w8.alloc (Obj.cells #[Value.int IntKind.i64 a.start,Value.int IntKind.i64 (-1),Value.int IntKind.i64 (AT a)] 108)).heap.size=zb+2:=by simp[hz8]
  have hB9:=hB8.trans (hb9.mono hB8.size);replace hn7:=hn7.below hb9;replace hp7:=hp7.below hb9;replace hT7:=hT7.below hb9;replace hbb:=(hb9.block zb (by omega)).trans hbb;generalize w8.alloc (Obj.cells #[Value.int IntKind.i64 a.start,Value.int IntKind.i64 (-1),Value.int IntKind.i64 (AT a)] 108)=w9 at*;clear hb9 hB8 hX8 hz8;have ct0:=Aa 0 hbs;have ct1:=Aa 1 hbs;have ct2:=Aa 2 hbs
  gi_upto_region 6 with(fail)
  have hb11:Below w9.heap.size w9 ((w9.alloc (Obj.cells #[Value.int IntKind.i64 a.start,Value.int IntKind.i64 (-1),Value.int IntKind.i64 (AT a)] 108)).alloc (Obj.cells #[Value.slice (some ⟨zb+2,0,none⟩) 1 1] 66)):=AD (Ao _) _
  have hz11:((w9.alloc (Obj.cells #[Value.int IntKind.i64 a.start,Value.int IntKind.i64 (-1),Value.int IntKind.i64 (AT a)] 108)).alloc (Obj.cells #[Value.slice (some ⟨zb+2,0,none⟩) 1 1] 66)).heap.size=zb+4:=by simp[hz9]
  have hbp:((w9.alloc (Obj.cells #[Value.int IntKind.i64 a.start,Value.int IntKind.i64 (-1),Value.int IntKind.i64 (AT a)] 108)).alloc (Obj.cells #[Value.slice (some ⟨zb+2,0,none⟩) 1 1] 66)).heap[zb+3]? =some (Obj.cells #[Value.slice (some ⟨zb+2,0,none⟩) 1 1] 66):=by
   have:=heap_alloc_new (w9.alloc (Obj.cells #[Value.int IntKind.i64 a.start,Value.int IntKind.i64 (-1),Value.int IntKind.i64 (AT a)] 108)) (Obj.cells #[Value.slice (some ⟨zb+2,0,none⟩) 1 1] 66)
   rwa [World.size_alloc,hz9]at this
  have hop:OP ((w9.alloc (Obj.cells #[Value.int IntKind.i64 a.start,Value.int IntKind.i64 (-1),Value.int IntKind.i64 (AT a)] 108)).alloc (Obj.cells #[Value.slice (some ⟨zb+2,0,none⟩) 1 1] 66)) (zb+2) (.slice (some ⟨zb+2,0,none⟩) 1 1) [⟨a.start,-1,AT a⟩]:=by
   refine World.ownsRow.alloc ⟨rfl,.inr ⟨zb+2,1,#[Value.int IntKind.i64 a.start,Value.int IntKind.i64 (-1),Value.int IntKind.i64 (AT a)],rfl,Nat.le_refl _, ?_,Nat.le_refl _,by decide,rfl,rfl⟩⟩ _;rw[<-hz9];exact heap_alloc_new _ _
  generalize((w9.alloc (Obj.cells #[Value.int IntKind.i64 a.start,Value.int IntKind.i64 (-1),Value.int IntKind.i64 (AT a)] 108)).alloc (Obj.cells #[Value.slice (some ⟨zb+2,0,none⟩) 1 1] 66))=w11 at*;replace hbs:=(hb11.block (zb+1) (by omega)).trans hbs;clear ct0 ct1 ct2;have ct0:=Aa 0 hbs;have ct1:=Aa 1 hbs;have ct2:=Aa 2 hbs;have HMM:=@run_makeMap Tryz.prog;obtain⟨w13,hrun,hown13,hg13⟩:=(World.ownsMap_made (H:=Unit) w11 Tryz.prog 108 (plainElem Tryz.prog 3)).update Dd Tryz.underlying109 (by decide) (IA _ HW0.out) (plainElem_int Tryz.underlying3 (q:=.i64) (a:=0) rfl);rw[hz11]at hrun hg13 hown13;unfold plV at hrun
  gi_upto_region 8 with(fail)
  have hs13:zb+5<=w13.heap.size:=by have:=hg13.size;simp[hz11]at this;omega
  have hb13:Below w11.heap.size w11 w13:=⟨hg13.os,hg13.tape,hg13.output,by omega,fun k hk=>by
   rw[hg13.block k (by simp;omega) (fun e=>by cases e;omega)];exact(Ao (w:=w11) _).block k hk⟩
  have hb15:Below w13.heap.size w13 ((w13.alloc (Obj.cells #[Value.map (some (zb+4))] 109)).alloc (Obj.cells #[Value.slice none 0 0,Value.slice none 0 0,Value.slice none 0 0] 65)):=AD (Ao _) _
  have hz15:((w13.alloc (Obj.cells #[Value.map (some (zb+4))] 109)).alloc (Obj.cells #[Value.slice none 0 0,Value.slice none 0 0,Value.slice none 0 0] 65)).heap.size=w13.heap.size+2:=by simp
  have hBO:BO ((w13.alloc (Obj.cells #[Value.map (some (zb+4))] 109)).alloc (Obj.cells #[Value.slice none 0 0,Value.slice none 0 0,Value.slice none 0 0] 65)) (zb+2) (w13.heap.size+1) (zb+2+1) (zb+4) w13.heap.size (.slice none 0 0) (.slice none 0 0) (.slice none 0 0) (.slice (some ⟨zb+2,0,none⟩) 1 1) [] (CQ (AZ a (Aq l)) (AT a) [⟨a.start,-1,AT a⟩] 0) [⟨a.start,-1,AT a⟩]:=by
   have hbe:=hb13.mono (B:=w11.heap.size) leR;refine {g:= ?_,p:= ?_,bp:= ?_,m:= ?_,bn:= ?_,lo:=⟨by omega,by omega⟩}
   ·have hg:=GB.start (B:=zb+2) (others:=[.slice (some ⟨zb+2,0,none⟩) 1 1,Aw (zb+2+1),Aw (zb+4),Aw w13.heap.size]) (w:=w13.alloc (Obj.cells #[Value.map (some (zb+4))] 109)) (by simp;omega) ?_ ?_
    ·rw[World.size_alloc]at hg;exact hg
    ·simp only[Sep,List.pairwise_cons,List.mem_cons,List.not_mem_nil,or_false,forall_eq_or_imp,forall_eq,AQ,Aw,Value.ownBlock,Option.some.injEq];refine⟨⟨?_, ?_, ?_⟩,⟨?_, ?_⟩, ?_, ?_,List.Pairwise.nil⟩
     all_goals(intro g h1 h2;first|omega|cases h1)
    ·simp only[List.mem_cons,List.not_mem_nil,or_false,forall_eq_or_imp,forall_eq,Aw,Value.ownBlock,Option.some.injEq,World.size_alloc];refine⟨?_, ?_, ?_, ?_⟩
     all_goals(intro g h1;omega)
   ·exact AG hop fun k hk=>by
     obtain rfl:zb+2=k:=by simpa[Value.ownBlock]using hk
     rw[hb15.block _ (by omega),hb13.block _ (by omega)]
   ·rw[hb15.block _ (by omega),hb13.block _ (by omega)];exact hbp
   ·exact(Qm HW0.out hown13).below hb15
   ·exact((Ao (w:=w13.alloc _) _).block _ (by simp)).trans (heap_alloc_new _ _)
  have hb9:Below (zb+2) w9 ((w13.alloc (Obj.cells #[Value.map (some (zb+4))] 109)).alloc (Obj.cells #[Value.slice none 0 0,Value.slice none 0 0,Value.slice none 0 0] 65)):=by
   rw[<-hz9];exact hb11.trans ((hb13.mono hb11.size).trans (hb15.mono (by omega)))
  generalize((w13.alloc (Obj.cells #[Value.map (some (zb+4))] 109)).alloc (Obj.cells #[Value.slice none 0 0,Value.slice none 0 0,Value.slice none 0 0] 65))=w15 at*;have hzn:zb+5<=w13.heap.size:=hs13;clear hrun hg13 hown13 hb13 hb15 hb11 ct0 ct1 ct2 hop hbp HMM hbs;generalize w13.heap.size=zn at*;clear w13 w11 hz11
  gi_wp2_with fail
  refine wpIn_loop_ghost_k (fun(n':Nat)(a':Act)(w':World)=>∃(k:Nat)(pls:List T4)(ds:List Deferred)(v0 v1 v2 vp:Value)(vals:List Value),LR a (Aq l) most ⟨a.start,-1,AT a⟩ (zb+2) (zn+2) (zn+1) (zb+2+1) (zb+4) zn w9 n' k pls ds v0 v1 v2 vp vals w'/\FrB vl w.heap.size zb zn k ds a') most ?_ ?_
  ·refine⟨0,[⟨a.start,-1,AT a⟩],[],.slice none 0 0,.slice none 0 0,.slice none 0 0,.slice (some ⟨zb+2,0,none⟩) 1 1,[],{gh:=rfl,ap:=AtP.start hm1 _,bo:=hBO,bl:=hb9,ok:= ?_,mks:=BU.nil _ _,n1:=by omega},FrB.mk _ _ _ _ _ _ _ _ _ _ _ _ _ _ _ _ _ _ _ _ _ _ _ _ _ _ _ _ _ _ _ _ _ _ _ _ _ _ _ _ _ _ _ _ _ _ _ _ _ _ _ _ _ _ _ _ _ _ _ _ _ _ _ _ _ _ _ _ _ _ _ _ _ _ _ _ _ _ _ _ _ _ _ _ _ _ _ _ _ _ _ _ _ _ _ _ _ _ _ _ _ _ _ _ _ _ _ _ _ _ _ _ _ _ _ _ _ _ _ _⟩;intro y hy;rw[List.mem_singleton.1 hy];exact HP0.out
  clear hBO hb9 q0 q1 q2 q3 q4 q5 q6 q7 q8 q9 q10 q11 q12 q13 q14 q15 q16 q17 q18 q19 q20 q21;intro gk ak wr hinv J K HJ HK
  have HJK:Hid (∀n' a' w',n'<gk->J n' a' w'->K a' w'):=fun n' a' w' h1 h2=>HK a' w' ⟨n',h1,h2⟩
  have HJJ:=Ab HJ;clear HJ HK;obtain⟨k,pls,ds,v0,v1,v2,vp,vals,hrel,hfr⟩:=hinv;refine FrB.elim (motive:=fun x=>Code.wpIn _ _ _ _ _ x wr) hfr ?_;clear hfr ak;intro u1 u2 u3 u10 u15 u16 u17 u18 u19 u20 u21 u22 u23 u24 u25 u26 u27 u28 u29 u30 u31 u32 u33 u34 u35 u36 u37 u38 u39 u40 u41 u42 u43 u44 u45 u46 u47 u48 u49 u50 u51 u52 u53 u54 u55 u56 u57 u58 u59 u60 u61 u62 u63 u64 u65 u66 u67 u68 u69 u70 u71 u72 u73 u74 u75 u76 u77 u78 u79 u80 u81 u82 u83 u84 u85 u86 u87 u88 u89 u90 u91 u92 u93 u94 u95 u96 u97 u98 u99 u100 u101 u102 u103 u104 u105 u106 u107 u108 u109 u110 u111 u112 u113 u114 u115 u116 u117 u118 u119 u120 u121 u122 u123 u124;have hvp:=hrel.bo.p.slice;obtain⟨aop,capp,rfl⟩:=hvp;have hple:=hrel.ap.le;have hkl:=hrel.ap.kl;have hbox:=Aa 0 hrel.bo.bp;have hwz:zn+2<=wr.heap.size:=hrel.n1;have HR:=Ab hrel;clear hrel
  by_cases hlt:k<pls.length
  case neg=>
   obtain rfl:k=pls.length:=by omega
   obtain⟨a0,s0,rfl⟩:=HR.out.bo.g.o.slice;obtain⟨a1,s1,rfl⟩:=HR.out.bo.g.p.slice;obtain⟨a2,s2,rfl⟩:=AU HR.out.bo.g.r;have hgm:Hid (CQ (AZ a (Aq l)) (AT a) pls pls.length=CQ (AZ a (Aq l)) (AT a) pls pls.length):=rfl;have hX9r:=hX9.trans ((show Below w9.heap.size w9 wr from hz9▸HR.out.bl).mono hX9.size)
   have hRB:RB w (zb+2) (zn+2) (zn+1) (zb+2+1) (zb+4) zn _ _ _ _ vals (CQ (AZ a (Aq l)) (AT a) pls pls.length) pls ds wr:=
    {bo:=HR.out.bo,mks:=HR.out.mks,bl:=hbx.trans (hX9r.mono hbx.size),c1:=⟨_,_,_,(HPG.out wr hX9r).2.1⟩,c2:=⟨_,(HPG.out wr hX9r).2.2.1⟩,c3:=⟨_,(HPG.out wr hX9r).2.2.2⟩}
   have HDO:Hid (FT a l most=some pls):=HR.out.ap.done;have HOKP:=Ab HR.out.ok
   have hgl:(CQ (AZ a (Aq l)) (AT a) pls pls.length).owner.length=pls.length/\(CQ (AZ a (Aq l)) (AT a) pls pls.length).prio.length=pls.length/\(CQ (AZ a (Aq l)) (AT a) pls pls.length).succ.length=pls.length:=by simp[CQ]
   rw[hgl.1,hgl.2.1,hgl.2.2]at hRB;clear HR hX9r hgl hgm
   gi_upto_region 26 with(fail)
   refine I6 hmx (R26 w (.slice a0 pls.length s0) (.slice a1 pls.length s1) (.slice a2 pls.length s2) (.slice aop pls.length capp)) (RB w (zb+2) (zn+2) (zn+1) (zb+2+1) (zb+4) zn (.slice a0 pls.length s0) (.slice a1 pls.length s1) (.slice a2 pls.length s2) (.slice aop pls.length capp) vals (CQ (AZ a (Aq l)) (AT a) pls pls.length) pls ds) (fun vs=>{tmps:=(_::_::_::_::_::_::_::_::_::_::_::_::_::_::_::_::_::_::_::_::_::_::_::_::_::_::_::_::_::_::_::_::_::_::_::_::_::_::_::_::_::_::_::_::_::_::_::_::_::_::_::_::_::_::_::_::_::_::_::_::_::_::_::_::_::_::_::_::_::_::_::_::_::_::_::_::_::_::_::_::_::_::_::_::_::_::_::_::_::_::_::_::_::_::_::_::_::_::_::_::_::_::_::_::_::_::_::_::_::_::_::_::_::_::_::_::_::_::_::_::_::_::_::vs 0::vs 1::[]).toArray,defers:=_}) (fun i=>[u123,u124].getD i undef) rfl (by kernel_rfl) {bo:=hRB.bo.below (Below.drew Ad),mks:=hRB.mks,bl:=hRB.bl.trans (Below.drew Ad),c1:=hRB.c1,c2:=hRB.c2,c3:=hRB.c3} ?step26 ?fin26
   case step26=>
    clear hRB hbox;intro ix o ho
    match ix,ho with
    |0,ho=>
     obtain rfl:=osI ho;intro vs W K hB hD hK;have HK:=Ab hK;have d0:=Aa 0 hB.bo.g.box;have d1:=Aa 1 hB.bo.g.box;have d2:=Aa 2 hB.bo.g.box;have HB:=Ab hB;clear hK hD ho hB;dsimp only;go_simp;have h:=HK.out _ _ HB.out (fun _ _ _ h=>h) rfl;simp only[upd,Nat.reduceEqDiff,reduceIte]at h;exact h
    |1,ho=>
     obtain rfl:=osI ho;intro vs W K hB hD hK;have HK:=Ab hK;have d0:=Aa 0 hB.bo.bp;have HB:=Ab hB;clear hK hD ho hB;dsimp only;go_simp;have h:=HK.out _ _ HB.out (fun _ _ _ h=>h) rfl;simp only[upd,Nat.reduceEqDiff,reduceIte]at h;exact h
    |2,ho=>
     obtain rfl:=osI ho;intro vs W K hB hD hK;have HK:=Ab hK;have e0:vs 0=.agg #[.slice a0 pls.length s0,.slice a1 pls.length s1,.slice a2 pls.length s2]:=Ac hD 0 rfl;obtain⟨x,y,z,hc⟩:=hB.c1;have d0:=Aa 0 hc;have d1:=Aa 1 hc;have d2:=Aa 2 hc;have f0:=Ay 0 hc;have f1:=Ay 1 hc;have f2:=Ay 2 hc;have HB:=Ab hB;clear hK hD ho hB hc;dsimp only;go_simp;obtain⟨q1,q2⟩:=HB.out.set1 (by omega) (by omega) (.slice a0 pls.length s0) (.slice a1 pls.length s1) (.slice a2 pls.length s2);have h:=HK.out undef _ q1 (fun j x hj h=>h.set _ 2 hj (fun k hk=>by rw[AK _ _ _ _ _ hk,AK _ _ _ _ _ hk,AK _ _ _ _ _ hk])) q2;simp only[upd,Nat.reduceEqDiff,reduceIte,e0]at h;exact h
    |3,ho=>
     obtain rfl:=osI ho;intro vs W K hB hD hK;have HK:=Ab hK;have e1:vs 1=.slice aop pls.length capp:=Ac hD 1 rfl;obtain⟨x,hc⟩:=hB.c2;have d0:=Aa 0 hc;have f0:=Ay 0 hc;have HB:=Ab hB;clear hK hD ho hB hc;dsimp only;go_simp;obtain⟨q1,q2⟩:=HB.out.set2 (by omega) (by omega) (.slice aop pls.length capp);have h:=HK.out undef _ q1 (fun j x hj h=>h.set _ 3 hj (fun k hk=>by rw[AK _ _ _ _ _ hk])) q2;simp only[upd,Nat.reduceEqDiff,reduceIte,e1]at h;exact h
    |4,ho=>
     obtain rfl:=osI ho;intro vs W K hB hD hK;have HK:=Ab hK;obtain⟨x,hc⟩:=hB.c3;have d0:=Aa 0 hc;have f0:=Ay 0 hc;have HB:=Ab hB;clear hK hD ho hB hc;dsimp only;go_simp;obtain⟨q1,q2⟩:=HB.out.set3 (by omega) (by omega) (.int .i64 0);have h:=HK.out undef _ q1 (fun j x hj h=>h.set _ 4 hj (fun k hk=>by rw[AK _ _ _ _ _ hk])) q2;simp only[upd,Nat.reduceEqDiff,reduceIte]at h;exact h
    |q+5,ho=>exact absurd ho (by simp)
   case fin26=>
    intro vs W hB hall;have h2:W.heap[w.heap.size+1+1]? =some (.cells #[.slice a0 pls.length s0,.slice a1 pls.length s1,.slice a2 pls.length s2] 65 (0,0)):=hall 2 (by decide);have h3:W.heap[w.heap.size+1+1+1]? =some (.cells #[.slice aop pls.length capp] 66 (0,0)):=hall 3 (by decide);have h4:W.heap[w.heap.size+1+1+1+1]? =some (.cells #[.int .i64 0] 39 (0,0)):=hall 4 (by decide);have HB:=Ab hB;clear hall hB hRB;generalize vs 0=u123,vs 1=u124;clear vs
    gi_wp2_with fail
    refine Ey (n₁:=zn+2) _ _ HB.out.mks fun W' k4 k5=> ?_
    have s1:=k5 _ _ h2 rfl;have s2:=Aa 0 (k5 _ _ h3 rfl);have s3:=Aa 0 (k5 _ _ h4 rfl);have hbo:=HB.out.bo.cells k4.size k5;have hbW:Below w.heap.size w W':=HB.out.bl.trans (k4.mono (by omega));refine⟨_,FJ (by rfl) _ _ ⟨w.heap.size+1+1,0,none⟩ ⟨w.heap.size+1+1+1,0,none⟩ ⟨w.heap.size+1+1+1+1,0,none⟩ (.agg #[.slice a0 pls.length _,.slice a1 pls.length _,.slice a2 pls.length _]) (.slice aop pls.length capp) (.int .i64 0) rfl rfl rfl (run_loadVar_row W' _ _ _ _ _ _ s1 Tryz.underlying65 (by rfl) (by rfl)) (by go_simp) (by go_simp), ?_⟩;show Gc a l (FT a l most) w _ _;rw[HDO.out];exact⟨_,_,rfl,RP HVA.out HOK.out (by omega) HOKP.out hbo.1,hbo.2.is (by simp only[Bk];omega) (fun y hy=>wfP HVA.out HTB.out.2 (HOKP.out y hy).1 (HOKP.out y hy).2),hbW⟩
  obtain⟨gp,rfl⟩:=HR.out.bo.p.some (by omega);obtain⟨y,hy⟩:∃y,y=pls[k]:=⟨_,rfl⟩;have hpk:=HR.out.bo.p.at' rfl k hlt;rw[<-hy]at hpk;have HY:=Ab hy;clear hy
  have hkI:(k:Int)<(pls.length:Int):=by omega
  gi_upto_region 12 with(fail)
  have hbS:Below wr.heap.size wr (wr.alloc (Obj.cells #[Value.slice none 0 0] 26)):=Ao _;have hxS:(wr.alloc (Obj.cells #[Value.slice none 0 0] 26)).heap[wr.heap.size]? =some (Obj.cells #[Value.slice none 0 0] 26):=heap_alloc_new _ _
  have hzS:(wr.alloc (Obj.cells #[Value.slice none 0 0] 26)).heap.size=wr.heap.size+1:=by simp
  generalize wr.alloc (Obj.cells #[Value.slice none 0 0] 26)=wS at*;have hlb:=(HR.out.bl.block zb (by omega)).trans hbb;have hlp:=HR.out.bo.bp
  have HF:Hid (∀W,Below wS.drew.heap.size wS.drew W->(W.cell? ⟨zb,0,none⟩=some (.int .i64 a.letters)/\W.cell? ⟨zb,1,none⟩=some (.int .i64 a.start)/\W.cell? ⟨zb,2,none⟩=some (.slice ao2 n2 cap2)/\W.cell? ⟨zb,3,none⟩=some (.slice ao3 n2 cap3)/\W.cell? ⟨zb,4,none⟩=some (.int .i64 (AT a))/\W.cell? ⟨zb,5,none⟩=some (.slice aot (Aq l).length capt))/\W.cell? ⟨zb+2+1,0,none⟩=some (.slice (some ⟨gp,0,none⟩) pls.length capp)/\
    (W.cell? ⟨gp,k*3,none⟩=some (.int .i64 y.st)/\W.cell? ⟨gp,k*3+1,none⟩=some (.int .i64 y.inn)/\W.cell? ⟨gp,k*3+2,none⟩=some (.int .i64 y.pr))):=fun W h=>by
   have h2:Below wr.heap.size wr W:=hbS.trans (((Below.drew Ad).trans h).mono hbS.size);have k1:=Ae h2 hlb;have k2:=Ae h2 hlp;exact⟨⟨Aa 0 k1,Aa 1 k1,Aa 2 k1,Aa 3 k1,Aa 4 k1,Aa 5 k1⟩,Aa 0 k2,Ah h2 hpk.1,Ah h2 hpk.2.1,Ah h2 hpk.2.2⟩
  clear hpk hbox hlb hlp;refine Dv hmx (G12 a l ao2 ao3 aot n2 cap2 cap3 capt gp pls.length capp k (wr.heap.size+1) y) (fun vs=>{tmps:=(_::_::_::_::_::_::_::_::_::_::_::_::_::_::_::_::_::_::_::_::_::_::_::_::_::_::_::_::_::_::_::_::_::_::_::_::_::_::_::_::_::_::_::_::_::_::_::_::_::_::_::_::_::_::_::_::_::_::_::_::_::_::_::_::vs 0::vs 1::vs 2::vs 3::vs 4::vs 5::_::_::_::_::_::_::_::_::_::_::_::_::_::_::_::_::_::_::_::_::_::_::_::_::_::_::_::_::_::_::_::_::_::_::_::_::_::_::_::_::_::_::_::_::_::_::_::_::_::_::_::_::_::_::_::[]).toArray,defers:=_}) (fun i=>[u64,u65,u66,u67,u68,u69].getD i undef) rfl (by kernel_rfl) G12.mono ?step ?fin
  case step=>
   intro ix o ho
   match ix,ho with
   |0,ho=>
     obtain rfl:=osI ho;intro vs W K hB hD hK;have HK:=Ab hK;obtain⟨d0,d1,d2,d3,d4,d5⟩:=(HF.out W hB).1;clear hK hD ho;dsimp only;go_simp;have h:=HK.out _ _ Ad rfl;simp only[upd,Nat.reduceEqDiff,reduceIte]at h;exact h
   |1,ho=>
     obtain rfl:=osI ho;intro vs W K hB hD hK;have HK:=Ab hK;have d0:=(HF.out W hB).2.1;clear hK hD ho;dsimp only;go_simp;have h:=HK.out _ _ Ad rfl;simp only[upd,Nat.reduceEqDiff,reduceIte]at h;exact h
   |2,ho|3,ho=>
     obtain rfl:=osI ho;intro vs W K hB hD hK;have HK:=Ab hK
     try have e1:vs 1=.slice (some ⟨gp,0,none⟩) pls.length capp:=Ac hD 1 rfl
     try have e2:vs 2=.int .i64 (k:Int):=Ac hD 2 rfl
     clear hK hD ho;dsimp only;go_simp;have h:=HK.out _ _ Ad rfl;simp only[upd,Nat.reduceEqDiff,reduceIte, *]at h;exact h
   |4,ho=>
     obtain rfl:=osI ho;intro vs W K hB hD hK;have HK:=Ab hK;have e3:vs 3=.pointer (some ⟨gp,k*3,none⟩):=Ac hD 3 rfl;obtain⟨d0,d1,d2⟩:=(HF.out W hB).2.2;clear hK hD ho;dsimp only;go_simp;have h:=HK.out _ _ Ad rfl;simp only[upd,Nat.reduceEqDiff,reduceIte,e3]at h;exact h
   |5,ho=>
     obtain rfl:=osI ho;intro vs W K hB hD hK;have HK:=Ab hK;have e0:vs 0=.agg #[.int .i64 a.letters,.int .i64 a.start,.slice ao2 n2 cap2,.slice ao3 n2 cap3,.int .i64 (AT a),.slice aot (Aq l).length capt]:=Ac hD 0 rfl;have e4:vs 4=.agg #[.int .i64 y.st,.int .i64 y.inn,.int .i64 y.pr]:=Ac hD 4 rfl;clear hK hD ho;dsimp only;go_simp;refine⟨trivial, ?_⟩;refine(callsIn_wide.2 (SX W _ _ _ _ _ _ _ _ _ _ _ _ y)).mono ?_;rintro e W' ⟨rfl,hW'⟩
     have hbn:Below W.heap.size W W':=by rw[hW'];exact AD (Ao _) _
     have hbn1:W'.heap[W.heap.size]? =some (.cells #[.int .i64 a.letters,.int .i64 a.start,.slice ao2 n2 cap2,.slice ao3 n2 cap3,.int .i64 (AT a),.slice aot (Aq l).length capt] 105 (0,0)):=by rw[hW'];exact((Ao (w:=W.alloc _) _).block _ (by simp)).trans (heap_alloc_new _ _)
     have hbn2:W'.heap[W.heap.size+1]? =some (.cells (plC y) 108 (0,0)):=by
      have:=heap_alloc_new (W.alloc (.cells #[.int .i64 a.letters,.int .i64 a.start,.slice ao2 n2 cap2,.slice ao3 n2 cap3,.int .i64 (AT a),.slice aot (Aq l).length capt] 105)) (.cells (plC y) 108);rw[World.size_alloc]at this;rw[hW'];exact this
     have h:=HK.out _ _ hbn ⟨W.heap.size,rfl,(by have h9:wS.heap.size<=W.heap.size:=hB.size;omega),hbn1,hbn2⟩;simp only[upd,Nat.reduceEqDiff,reduceIte,e0,e4]at h;exact h
   |q+6,ho=>exact absurd ho (by simp)
  case fin=>
   intro vs w1 hB1 hall;obtain⟨Bb,e5,hBb,hq1,hq2⟩:=hall 5 (by decide);rw[e5];generalize vs 0=u64,vs 1=u65,vs 2=u66,vs 3=u67,vs 4=u68;clear vs hall e5
   gi_wp2_with fail
   have hbw1:Below wr.heap.size wr w1:=hbS.trans (((Below.drew Ad).trans hB1).mono hbS.size);have hxS1:=(show Below wS.heap.size wS w1 from(Below.drew Ad).trans hB1).block _ (by omega)|>.trans hxS
   have hs1:wr.heap.size+1<=w1.heap.size:=by have h9:wS.heap.size<=w1.heap.size:=hB1.size;omega
   have hq2l:=(ltE hq2);have hBI:=HR.out.bo.open (by omega) hbw1 (zS:=wr.heap.size) (Bp:=Bb+1) (Bb:=Bb) ⟨Nat.le_refl _,by omega⟩ ⟨by omega,by omega⟩ ⟨by omega,by omega⟩ (by omega) (by omega) (by omega) hxS1;have hok:=HR.out.ok y (by rw[HY.out];exact List.getElem_mem hlt);have hbl1:Below (zb+2) w9 w1:=HR.out.bl.trans (hbw1.mono (by omega));have hmk1:BU (zn+2) ds w1:=HR.out.mks.keeps ⟨hbw1.size,fun j o _ hj _=>(hbw1.block j (ltE hj)).trans hj⟩;obtain⟨S,hS⟩:∃S,S=AZ a (Aq l) y:=⟨_,rfl⟩
   have HWF:Hid (∀x∈S,WfP x):=fun x hx=>by
    rw[hS]at hx;exact wfP HVA.out HTB.out.2 (HOK.out.succ hok.1 x hx) (NN HVA.out hok.1 x hx)
   have HSL:Hid (S.length<=64):=by
    show _<=_;rw[hS];unfold AZ
    split
    ·simpa using HTB.out.2
    ·rw[List.length_map];have:=hok.1.inn;exact hok.1.len y.inn.toNat (by omega)
   have HSEQ:=Ab (Lu Fence.wide (5-1) trivial rfl (by omega) (Bb+1) Bb w9 a (Aq l) y S hS hok.1 HPL.out HTB.out.2 a.letters a.start (AT a) ao2 ao3 aot cap2 cap3 capt w1 (hz9▸hbl1) hq2 (HN2.out▸hq1) (HN2.out▸hn7) (HN2.out▸hp7) hT7);have HSS:=Ab hS;clear hS hq1 hq2 hbS hxS hzS hB1 HF;generalize hgm:CQ (AZ a (Aq l)) (AT a) pls k=gm at*;have HGM:=Ab hgm;clear hgm
   have KZ:Hid (∀X Y,KpN (zb+2) (Bb+1) Bb X Y->KpN w9.heap.size (Bb+1) Bb X Y):=fun X Y h=>by rw[hz9];exact h
   refine wpIn_rangeFunc_ownH rfl (by omega) (gf:=112) (lb:=#[.pointer (some ⟨Bb+1,0,none⟩),.pointer (some ⟨Bb,0,none⟩)]) rfl trivial (enters_of Tryz.func112 (by kernel_rfl) rfl)
    HSEQ.out KpN.trans (KpN.put (by omega) (by omega) (by omega)) Ad (fun _=>rfl)
    (Ti most (zb+2) (zn+2) (zn+1) (zb+2+1) (zb+4) zn wr.heap.size (Bb+1) Bb v0 v1 v2 vals gm pls S ds w9)
    (IXV most (zn+2) w.heap.size pls S ds w)
    (INV.own hmk1 (by omega) (by omega) (by omega)) (IXV.own hmk1 (by have:=hB9.size;omega))
    ⟨_,_,{bi:=hBI,le:=hple,bl:=hbl1,mks:=hmk1,n1:=by omega}⟩
    (fun x a' W=>∃zt,FrI vl w.heap.size zb zn wr.heap.size zt a'/\W.heap[zt]? =some (.cells (plC S[x]) 108 (0,0)))
    (fun x a' _ X Y row ⟨zt,hf,hz⟩ hg hr=>⟨zt,hf,Om hz hg hr⟩)
    ?assign ?body ?done ?stop
   case assign=>
    intro lY pre x W K hI hK;obtain⟨vp',vS',hI⟩:=hI;have hlx:=(Array.getElem?_eq_some_iff.1 hI.bi.bs).1;unfold K1 plV
    gi_wp2
    have hbx:=Ao (w:=W) (.cells #[.int .i64 S[x].st,.int .i64 S[x].inn,.int .i64 S[x].pr] 108);obtain⟨k1,k2⟩:=EO.of_below (n₁:=w1.heap.size) hI.bi hbx (by have:=hI.n1;omega);exact hK _ _ k2 (KZ.out _ _ k1) ⟨_,_,{bi:=hI.bi.below hbx,le:=hI.le,bl:=hI.bl.trans (hbx.mono (by have:=hI.n1;omega)),mks:=hI.mks.keeps ⟨hbx.size,fun j o _ hj _=>(hbx.block j (ltE hj)).trans hj⟩,n1:=Nat.le_trans hI.n1 hbx.size}⟩ ⟨W.heap.size,FrI.mk _ _ _ _ _ _ _ _ _ _ _ _ _ _ _ _ _ _ _ _ _ _ _ _ _ _ _ _ _ _ _ _ _ _ _ _ _ _ _ _ _ _ _ _ _ _ _ _ _ _ _ _ _ _ _ _ _ _ _ _ _ _ _ _ _ _ _ _ _ _ _ _ _ _ _ _ _ _ _ _ _ _ _ _ _ _ _ _ _ _ _ _ _ _ _ _ _ _ _ _ _ _ _ _ _ _ _ _ _ _ _ _ _ _ _ _ _ _ _,heap_alloc_new _ _⟩
   case body=>
    rintro lY pre x a' W hlY-⟨vp',vS',hI⟩ ⟨zt,hf,hzt⟩ hpl;refine FrI.elim (motive:=fun q=>Code.wpIn _ _ _ _ _ q W) hf ?_;clear hf a' u1 u2 u3 u10 u16 u17 u18 u19 u20 u21 u22 u23 u24 u25 u26 u27 u28 u29 u30 u31 u32 u33 u34 u35 u36 u37 u38 u39 u40 u41 u42 u43 u44 u45 u46 u47 u48 u49 u50 u51 u52 u53 u54 u55 u56 u57 u62 u63 u64 u65 u66 u67 u68 u70 u71 u72 u73 u74 u75 u76 u77 u78 u79 u80 u81 u82 u83 u84 u85 u86 u87 u88 u89 u90 u91 u92 u93 u94 u95 u96 u97 u98 u99 u100 u101 u102 u103 u104 u105 u106 u107 u108 u109 u110 u111 u112 u113 u114 u115 u116 u117 u118 u119 u120 u121 u122 u123 u124;intro u1 u2 u3 u10 u14 u17 u18 u19 u20 u21 u22 u23 u24 u25 u26 u27 u28 u29 u30 u31 u32 u33 u34 u35 u36 u37 u38 u39 u40 u41 u42 u43 u44 u45 u46 u47 u48 u49 u50 u51 u52 u53 u54 u55 u56 u57 u58 u59 u60 u61 u62 u63 u64 u65 u66 u67 u68 u69 u70 u71 u72 u73 u74 u75 u76 u77 u78 u79 u80 u81 u82 u83 u84 u85 u86 u87 u88 u89 u90 u91 u92 u93 u94 u95 u96 u97 u98 u99 u100 u101 u102 u103 u104 u105 u106 u107 u108 u109 u110 u111 u112 u113 u114 u115 u116 u117 u118 u119 u120 u121 u122 u123 u124;obtain⟨yx,hyx⟩:∃yx,yx=S[x]:=⟨_,rfl⟩;have hyw:=HWF.out S[x] (List.getElem_mem _);rw[<-hyx]at hyw hzt;have hlk:=hI.bi.m.get hyw
    have hbW:zb+2<=W.heap.size:=by have:=hI.n1;omega
    have hX9W:=hX9.trans ((show Below w9.heap.size w9 W from hz9▸hI.bl).mono hX9.size);have cm:W.cell? ⟨w.heap.size+1,0,none⟩=some (.int .i64 (most:Int)):=Aa 0 (HPG.out W hX9W).1.2;have cn:W.cell? ⟨zn,0,none⟩=some (.map (some (zb+4))):=Aa 0 hI.bi.bn;have c0:W.cell? ⟨zt,0,none⟩=some (.int .i64 yx.st):=Aa 0 hzt;have c1:W.cell? ⟨zt,1,none⟩=some (.int .i64 yx.inn):=Aa 1 hzt;have c2:W.cell? ⟨zt,2,none⟩=some (.int .i64 yx.pr):=Aa 2 hzt;obtain⟨aS,kS,rfl⟩:=hI.bi.o.slice;obtain⟨aP,kP,rfl⟩:=hI.bi.p.slice
    have hztm:zt≠zb+4:=by
     rintro rfl;obtain⟨es,c,h5⟩:=hI.bi.m.isMap;rw[hzt]at h5;cases h5
    have hztl:=(ltE hzt);have cp:W.cell? ⟨zb+2+1,0,none⟩=some (.slice aP (BD pls (Dc S pre)).length kP):=Aa 0 hI.bi.bp;have HZT:=Ab hzt;have hoS:=hI.bi.o;have hgl:=PQ S pre
    have hnl:(C1 (BD pls (Dc S pre)) (Dc S pre)).length=pre.length:=by simp[C1,hgl]
    have hpl64:pre.length<64:=by have:=HSL.out;exact Nat.lt_of_lt_of_le hpl this
    rw[hnl]at hoS
    have cs:W.cell? ⟨wr.heap.size,0,none⟩=some (.slice aS pre.length kS):=by rw[<-hnl];exact Aa 0 hI.bi.bs
    have hnl3:(C1 (BD pls (Dc S pre)) (Dc S pre)).length<64:=by rw[hnl];exact hpl64
    have hbi:=hI.bi;rw[hnl]at hbi;have HBI:=Ab hbi;have hle:=hI.le;have HBL:=Ab hI.bl;have HMK:=Ab hI.mks;have HN1:=hI.n1;clear hbi
    have HGS:Hid (Dc S (pre++[x])=Dc S pre++[yx]):=by show _=_;rw[Jm,hyx]
    have HAS:Hid (BD pls (Dc S (pre++[x]))=Fy (BD pls (Dc S pre)) yx):=by show _=_;rw[Jm,N0,hyx]
    have HMEM:=Ab (KL pls (Dc S pre));clear hI hgl hnl hzt hyx;generalize hL:BD pls (Dc S pre)=L at*;generalize hys:Dc S pre=ys at*;clear hL hys
    by_cases hin:yx∈L
    ·have hrun:=hlk.1 hin;unfold plV at hrun;have HIN:=Ab hin;clear hlk hin
     gi_upto_region 21 with(fail)
     gi_upto_region 99 with(gi_at_builtin;refine Fk rfl _ _ (L.idxOf yx:Int) rfl (zb+2) _ _ hoS rfl _ rfl rfl (by omega) hbW ?_;intro v' w' hown' hg hmv;obtain⟨ao',cap',hv'⟩:=hown'.slice;rw[List.length_append,List.length_singleton]at hv';subst hv';have HST:=Ab (HBI.out.appS (n₁:=zn+2) hown' hg hmv hbW);have k2:=Aa 0 HST.out.1;have f2:=Ay 0 HST.out.1;clear hown' hg hmv)
     have e1:Fy L yx=L:=Rd HIN.out;have hb:=HST.out.2.1;rw[<-Iz]at hb;obtain⟨-,-,q1,q2⟩:=HST.out;exact⟨DS q2 (by omega),KZ.out _ _ q1,_,_,{bi:=by rw[HAS.out,HGS.out,e1];exact hb,le:=by rw[HAS.out,e1];exact hle,bl:=HBL.out.trans q1.1,mks:=HMK.out.keeps q2,n1:=Nat.le_trans HN1 q2.size}⟩
    ·obtain⟨c,hrun⟩:=hlk.2 hin;unfold plV at hrun;have HIN:=Ab hin;clear hlk hin
     by_cases hmx2:L.length=most
     ·have hEQ:=Ab hmx2
      have hme:((L.length:Int)==(most:Int))=true:=by simp;omega
      clear hmx2;obtain⟨-,g1,g2,g3⟩:=HPG.out W hX9W;have r0:W.cell? ⟨w.heap.size+1+1,0,none⟩=some (.slice none 0 0):=Aa 0 g1;have r1:W.cell? ⟨w.heap.size+1+1,1,none⟩=some (.slice none 0 0):=Aa 1 g1;have r2:W.cell? ⟨w.heap.size+1+1,2,none⟩=some (.slice none 0 0):=Aa 2 g1;have r3:W.cell? ⟨w.heap.size+1+1+1,0,none⟩=some (.slice none 0 0):=Aa 0 g2;have r4:W.cell? ⟨w.heap.size+1+1+1+1,0,none⟩=some (.int .i64 0):=Aa 0 g3;have f0:=Ay 0 g1;have f1:=Ay 1 g1;have f2:=Ay 2 g1;have f3:=Ay 0 g2;have f4:=Ay 0 g3
      gi_upto_region 99 with(fail)
      have hBW:Below w.heap.size w W:=hbx.trans (hX9W.mono hbx.size);refine⟨?_,{ret:=rfl,gt:= ?_,r1:= ?_,r2:= ?_,r3:= ?_,bl:= ?_,mks:=M1 HMK.out _ _ _ _ _}⟩
      ·exact(((((KeepsOthers.setCell W ⟨w.heap.size+1+1,0,none⟩ _).trans (KeepsOthers.setCell _ ⟨w.heap.size+1+1,1,none⟩ _)).trans (KeepsOthers.setCell _ ⟨w.heap.size+1+1,2,none⟩ _)).trans (KeepsOthers.setCell _ ⟨w.heap.size+1+1+1,0,none⟩ _)).trans (KeepsOthers.setCell _ ⟨w.heap.size+1+1+1+1,0,none⟩ _)).from _
      ·rw[HAS.out,KM HIN.out,List.length_append,List.length_singleton,hEQ.out];omega
      ·exact(heap_setCell_other _ ⟨w.heap.size+1+1+1+1,0,none⟩ _ _ (by simp<;>omega)).trans ((heap_setCell_other _ ⟨w.heap.size+1+1+1,0,none⟩ _ _ (by simp<;>omega)).trans (Fu g1))
      ·refine(heap_setCell_other _ ⟨w.heap.size+1+1+1+1,0,none⟩ _ _ (by simp<;>omega)).trans (heap_setCell_same _ (w.heap.size+1+1+1) 0 #[.slice none 0 0] _ _ ?_);exact(heap_setCell_other _ ⟨w.heap.size+1+1,2,none⟩ _ _ (by simp<;>omega)).trans ((heap_setCell_other _ ⟨w.heap.size+1+1,1,none⟩ _ _ (by simp<;>omega)).trans ((heap_setCell_other _ ⟨w.heap.size+1+1,0,none⟩ _ _ (by simp<;>omega)).trans g2))
      ·refine heap_setCell_same _ (w.heap.size+1+1+1+1) 0 #[.int .i64 0] _ _ ?_;exact(heap_setCell_other _ ⟨w.heap.size+1+1+1,0,none⟩ _ _ (by simp<;>omega)).trans ((heap_setCell_other _ ⟨w.heap.size+1+1,2,none⟩ _ _ (by simp<;>omega)).trans ((heap_setCell_other _ ⟨w.heap.size+1+1,1,none⟩ _ _ (by simp<;>omega)).trans ((heap_setCell_other _ ⟨w.heap.size+1+1,0,none⟩ _ _ (by simp<;>omega)).trans g3)))
      ·exact((((hBW.setCell (p:=⟨w.heap.size+1+1,0,none⟩) (by simp;omega) _).setCell (p:=⟨w.heap.size+1+1,1,none⟩) (by simp;omega) _).setCell (p:=⟨w.heap.size+1+1,2,none⟩) (by simp;omega) _).setCell (p:=⟨w.heap.size+1+1+1,0,none⟩) (by simp;omega) _).setCell (p:=⟨w.heap.size+1+1+1+1,0,none⟩) (by simp;omega) _
     ·have hne:((L.length:Int)==(most:Int))=false:=by simp;omega
      have hlt3:L.length<most:=by omega
      clear hmx2;obtain⟨w2,hrun2,hm2,hg2⟩:=HBI.out.m.upd hyw HIN.out (by omega);unfold plV at hrun2;have HB2:=Ab (HBI.out.put (n₁:=zn+2) hg2 hm2 hbW (by omega));have hbW2:zb+2<=w2.heap.size:=Nat.le_trans hbW hg2.size;have hzt2:=(hg2.block zt hztl (fun e=>hztm (by cases e;rfl))).trans HZT.out;have d0:w2.cell? ⟨zt,0,none⟩=some (.int .i64 yx.st):=Aa 0 hzt2;have d1:w2.cell? ⟨zt,1,none⟩=some (.int .i64 yx.inn):=Aa 1 hzt2;have d2:w2.cell? ⟨zt,2,none⟩=some (.int .i64 yx.pr):=Aa 2 hzt2;have d3:w2.cell? ⟨zb+2+1,0,none⟩=some (.slice aP L.length kP):=Aa 0 HB2.out.1.bp;have hoP:=HB2.out.1.p;clear hg2 hm2 hzt2
      gi_upto_region 21 with(gi_at_builtin;refine KO rfl _ _ yx rfl (zb+2) _ _ hoP rfl _ rfl rfl (by omega) hbW2 ?_;intro v' w' hown' hg hmv;obtain⟨ao',cap',hv'⟩:=hown'.slice;rw[List.length_append,List.length_singleton]at hv';subst hv';have HSP:=Ab (HB2.out.1.appP (n₁:=zn+2) hown' hg hmv hbW2);have k2:=Aa 0 HSP.out.1;have f2:=Ay 0 HSP.out.1;clear hown' hg hmv)
      obtain⟨-,HB4,HK4⟩:=HSP.out;replace HB4:=Ab HB4;clear k2 f2 d0 d1 d2 d3 cm cn c0 c1 c2 cs cp hrun2 hoS hoP HSP;have hbW4:zb+2<=(w'.setCell ⟨zb+2+1,0,none⟩ (.slice ao' (L.length+1) cap')).heap.size:=Nat.le_trans hbW2 HK4.2.size;have HK4':=Ab HK4;clear HK4;generalize w'.setCell ⟨zb+2+1,0,none⟩ (.slice ao' (L.length+1) cap')=w4 at*;have cs:w4.cell? ⟨wr.heap.size,0,none⟩=some (.slice aS pre.length kS):=Aa 0 HB4.out.bs;have hoS:=HB4.out.o
      gi_upto_region 99 with(gi_at_builtin;refine Fk rfl _ _ (L.length:Int) rfl (zb+2) _ _ hoS rfl _ rfl rfl (by omega) hbW4 ?_;intro v' w' hown' hg hmv;obtain⟨ao',cap',hv'⟩:=hown'.slice;rw[List.length_append,List.length_singleton]at hv';subst hv';have HST:=Ab (HB4.out.appS (n₁:=zn+2) hown' hg hmv hbW4);have k2:=Aa 0 HST.out.1;have f2:=Ay 0 HST.out.1;clear hown' hg hmv)
      have e1:Fy L yx=L++[yx]:=KM HIN.out;have hb:=HST.out.2.1
      have e2:C1 (L++[yx]) (ys++[yx])=C1 L ys++[(L.length:Int)]:=by rw[Iz,Jy HMEM.out,Nm HIN.out]
      rw[<-e2]at hb;have q3:=HB2.out.2.trans (HK4'.out.trans HST.out.2.2);exact⟨DS q3.2 (by omega),KZ.out _ _ q3.1,_,_,{bi:=by rw[HAS.out,HGS.out,e1];exact hb,le:=by rw[HAS.out,e1,List.length_append,List.length_singleton];omega,bl:=HBL.out.trans q3.1.1,mks:=HMK.out.keeps q3.2,n1:=Nat.le_trans HN1 q3.2.size}⟩
   case done=>
    rintro D ys W hD rfl ⟨vp',vS',hI⟩ hKd;have hbi:=hI.bi;have hle2:=hI.le;have hbl2:=hI.bl;have hmk2:=BU.cons hmk1 hI.mks (by omega) hD hKd;have hn2:=hI.n1;rw[PP]at hbi hle2;have hBE:=hbi.close;clear hI hbi hKd
    have hkL:k<(BD pls S).length:=by
     obtain⟨e,he⟩:=Eb pls S;rw[he,List.length_append];omega
    have hyk:(BD pls S)[k]=y:=by
     obtain⟨e,he⟩:=Eb pls S;have h3:(pls++e)[k]'(by simp;omega)=pls[k]:=List.getElem_append_left hlt;rw[HY.out,<-h3];simp only[he]
    have hnums:(C1 (BD pls S) S).length<=64:=by simp[C1];exact HSL.out
    obtain⟨aS,kS,rfl⟩:=hBE.o.slice;obtain⟨aP,kP,rfl⟩:=hBE.p.slice;obtain⟨gp2,rfl⟩:=hBE.p.some (by omega);have hpk:=hBE.p.at' rfl k hkL;rw[hyk]at hpk;have hlb:=(hbl2.block zb (by omega)).trans hbb;have hlp:=hBE.bp
    have HAP:Hid (AtP (AZ a (Aq l)) most ⟨a.start,-1,AT a⟩ (k+1) (BD pls S)):=by
     have:=HR.out.ap.next hlt (by rw[<-HY.out,<-HSS.out];exact hle2);rw[<-HY.out,<-HSS.out]at this;exact this
    have HPG2:Hid (CQ (AZ a (Aq l)) (AT a) (BD pls S) k=gm):=by
     obtain⟨e,he⟩:=Eb pls S;show _=_;rw[he,Oo hkl HR.out.ap.cl];exact HGM.out
    have HPG3:Hid (CQ (AZ a (Aq l)) (AT a) (BD pls S) (k+1)=⟨gm.owner++[D1 y],gm.prio++[D2 (AT a) y],gm.succ++[C1 (BD pls S) S]⟩):=by
     show _=_;rw[Oq hkL,HPG2.out,hyk,<-HSS.out]
    have HOK2:Hid (∀z∈BD pls S,Hl a (Aq l) z/\PlW z):=by
     refine Ph (fun z hz=>HR.out.ok z hz) fun z hz=> ?_
     rw[HSS.out]at hz;exact⟨HOK.out.succ hok.1 z hz,NN HVA.out hok.1 z hz⟩
    have hgml:gm.owner.length=k/\gm.prio.length=k/\gm.succ.length=k:=by
     rw[<-HPG2.out];simp only[CQ,List.length_map,List.length_take];omega
    have HGML:=Ab hgml
    have hgm0:gm.owner.length<=3000:=by omega
    have hgm1:gm.prio.length<=3000:=by omega
    have hgm2:gm.succ.length<=3000:=by omega
    clear hgml hyk;have HME:=Ab hmk2;clear hmk2 hmk1 hBI hbl1 hbw1 hxS1;generalize hLL:BD pls S=L at*;clear hLL;generalize C1 L S=nums at*
    have hkI2:(k:Int)<(L.length:Int):=by omega
    gi_upto_region 22 with(fail)
    have HF:Hid (∀W',Below W.drew.heap.size W.drew W'->(W'.cell? ⟨zb,0,none⟩=some (.int .i64 a.letters)/\W'.cell? ⟨zb,1,none⟩=some (.int .i64 a.start)/\W'.cell? ⟨zb,2,none⟩=some (.slice ao2 n2 cap2)/\W'.cell? ⟨zb,3,none⟩=some (.slice ao3 n2 cap3)/\W'.cell? ⟨zb,4,none⟩=some (.int .i64 (AT a))/\W'.cell? ⟨zb,5,none⟩=some (.slice aot (Aq l).length capt))/\W'.cell? ⟨zb+2+1,0,none⟩=some (.slice (some ⟨gp2,0,none⟩) L.length kP)/\
      (W'.cell? ⟨gp2,k*3,none⟩=some (.int .i64 y.st)/\W'.cell? ⟨gp2,k*3+1,none⟩=some (.int .i64 y.inn)/\W'.cell? ⟨gp2,k*3+2,none⟩=some (.int .i64 y.pr))/\Fh W' (.agg #[.int .i64 a.letters,.int .i64 a.start,.slice ao2 n2 cap2,.slice ao3 n2 cap3,.int .i64 (AT a),.slice aot (Aq l).length capt]) a l):=fun W' h=>by
     have h2:Below W.heap.size W W':=(Below.drew Ad).trans h;have k1:=Ae h2 hlb;have k2:=Ae h2 hlp;have h3:Below w9.heap.size w9 W':=(show Below w9.heap.size w9 W from hz9▸hbl2).trans (h2.mono (by omega));exact⟨⟨Aa 0 k1,Aa 1 k1,Aa 2 k1,Aa 3 k1,Aa 4 k1,Aa 5 k1⟩,Aa 0 k2,⟨Ah h2 hpk.1,Ah h2 hpk.2.1,Ah h2 hpk.2.2⟩,_,_,_,rfl,hn7.below h3,hp7.below h3,hT7.below h3⟩
    clear hpk hlb hlp;refine Dv hmx (G22 a l ao2 ao3 aot n2 cap2 cap3 capt gp2 L.length kP k y) (fun vs=>{tmps:=(_::_::_::_::_::_::_::_::_::_::_::_::_::_::_::_::_::_::_::vs 9::vs 10::_::_::_::_::_::_::_::_::_::_::_::_::_::_::_::_::_::_::_::_::_::_::_::_::_::_::_::_::_::_::_::_::_::_::_::_::_::_::_::_::_::_::_::_::_::_::_::_::_::_::_::_::_::_::_::_::_::_::_::_::_::_::_::_::_::_::_::_::_::_::_::_::_::_::_::vs 6::vs 0::vs 1::vs 2::vs 3::vs 4::vs 5::vs 7::vs 8::_::_::_::_::_::_::_::_::_::_::_::_::_::_::_::_::_::_::_::_::[]).toArray,defers:=_}) (fun i=>[u97,u98,u99,u100,u101,u102,u96,u103,u104,u19,u20].getD i undef) rfl (by kernel_rfl) (fun _ _ _ _ h _=>h) ?step2 ?fin2
    case step2=>
     intro ix o ho
     match ix,ho with
     |0,ho=>
       obtain rfl:=osI ho;intro vs W K hB hD hK;have HK:=Ab hK;obtain⟨d0,d1,d2,d3,d4,d5⟩:=(HF.out W hB).1;clear hK hD ho;dsimp only;go_simp;have h:=HK.out _ _ Ad rfl;simp only[upd,Nat.reduceEqDiff,reduceIte]at h;exact h
     |1,ho=>
       obtain rfl:=osI ho;intro vs W K hB hD hK;have HK:=Ab hK;have d0:=(HF.out W hB).2.1;clear hK hD ho;dsimp only;go_simp;have h:=HK.out _ _ Ad rfl;simp only[upd,Nat.reduceEqDiff,reduceIte]at h;exact h
     |2,ho|3,ho|6,ho|7,ho|8,ho|9,ho|10,ho=>
       obtain rfl:=osI ho;intro vs W K hB hD hK;have HK:=Ab hK
       try have e1:vs 1=.slice (some ⟨gp2,0,none⟩) L.length kP:=Ac hD 1 rfl
       try have e2:vs 2=.int .i64 (k:Int):=Ac hD 2 rfl
       try have e5:vs 5=.tuple #[.int .i64 (D1 y),.int .i64 (D2 (AT a) y)]:=Ac hD 5 rfl
       try have e6:vs 6=.tuple #[.int .i64 (D1 y),.int .i64 (D2 (AT a) y)]:=Ac hD 6 rfl
       try have e7:vs 7=.int .i64 (D1 y):=Ac hD 7 rfl
       try have e8:vs 8=.int .i64 (D2 (AT a) y):=Ac hD 8 rfl
       clear hK hD ho;dsimp only;go_simp;have h:=HK.out _ _ Ad rfl;simp only[upd,Nat.reduceEqDiff,reduceIte, *]at h;exact h
     |4,ho=>
       obtain rfl:=osI ho;intro vs W K hB hD hK;have HK:=Ab hK;have e3:vs 3=.pointer (some ⟨gp2,k*3,none⟩):=Ac hD 3 rfl;obtain⟨d0,d1,d2⟩:=(HF.out W hB).2.2.1;clear hK hD ho;dsimp only;go_simp;have h:=HK.out _ _ Ad rfl;simp only[upd,Nat.reduceEqDiff,reduceIte,e3]at h;exact h
     |5,ho=>
       obtain rfl:=osI ho;intro vs W K hB hD hK;have HK:=Ab hK;have e0:vs 0=.agg #[.int .i64 a.letters,.int .i64 a.start,.slice ao2 n2 cap2,.slice ao3 n2 cap3,.int .i64 (AT a),.slice aot (Aq l).length capt]:=Ac hD 0 rfl;have e4:vs 4=.agg #[.int .i64 y.st,.int .i64 y.inn,.int .i64 y.pr]:=Ac hD 4 rfl;clear hK hD ho;dsimp only;go_simp;refine⟨trivial, ?_⟩;refine(callsIn_wide.2 (ML W _ a l y (HF.out W hB).2.2.2)).mono ?_;rintro e W' ⟨rfl,hW'⟩;have h:=HK.out _ _ hW' rfl;simp only[upd,Nat.reduceEqDiff,reduceIte,e0,e4]at h;exact h
     |q+11,ho=>exact absurd ho (by simp)
    case fin2=>
     intro vs w2 hB2 hall;have e9:vs 9=.int .i64 (D1 y):=hall 9 (by decide);have e10:vs 10=.int .i64 (D2 (AT a) y):=hall 10 (by decide);rw[e9,e10];generalize vs 0=u97,vs 1=u98,vs 2=u99,vs 3=u100,vs 4=u101,vs 5=u102,vs 6=u96,vs 7=u103,vs 8=u104;clear vs hall e9 e10;have hbw2:Below W.heap.size W w2:=(Below.drew Ad).trans hB2;have hBE2:=hBE.below hbw2;have hbl3:Below (zb+2) w9 w2:=hbl2.trans (hbw2.mono (by omega));have hn3:zn+2<=w2.heap.size:=Nat.le_trans hn2 hbw2.size;have HME2:=Ab (HME.out.keeps (w':=w2) ⟨hbw2.size,fun j o _ hj _=>(hbw2.block j (ltE hj)).trans hj⟩);clear hBE hbl2 hB2 hbw2 HME hn2 HF;obtain⟨a0,s0,rfl⟩:=hBE2.g.o.slice;obtain⟨a1,s1,rfl⟩:=hBE2.g.p.slice;obtain⟨a2,s2,rfl⟩:=AU hBE2.g.r;have g0:w2.cell? ⟨zn+1,0,none⟩=some (.slice a0 gm.owner.length s0):=Aa 0 hBE2.g.box;have hoO:=hBE2.g.o;have HB2:=Ab hBE2;have HBL3:=Ab hbl3;clear hBE2 hbl3
     have hb2z:zb+2<=w2.heap.size:=by omega
     gi_upto_region 23 with(fail)
     gi_upto_region 24 with(gi_at_builtin;refine Fk rfl _ _ (D1 y) rfl (zb+2) _ _ hoO rfl _ rfl rfl (by omega) hb2z ?_;intro v' w' hown' hg hmv;obtain⟨ao',cap',hv'⟩:=hown'.slice;rw[List.length_append,List.length_singleton]at hv';subst hv';have HST:=Ab (HB2.out.stepO hown' hg hmv hb2z);have k2:=Aa 0 HST.out.1;have f2:=Ay 0 HST.out.1;clear hown' hg hmv)
     obtain⟨-,hB5,hk5,hf5⟩:=HST.out;have HF5:=Ab hf5;clear HST k2 f2 g0 hoO HB2;generalize w'.setCell ⟨zn+1,0,none⟩ (.slice ao' (gm.owner.length+1) cap')=w5' at*;have g0:w5'.cell? ⟨zn+1,1,none⟩=some (.slice a1 gm.prio.length s1):=Aa 1 hB5.g.box;have hoO:OI w5' (zb+2) (.slice a1 gm.prio.length s1) gm.prio:=hB5.g.p;have HB5:=Ab hB5;have HK5:=Ab hk5;have hb5z:zb+2<=w5'.heap.size:=Nat.le_trans hb2z hk5.size;clear hB5 hk5 hf5 w'
     gi_upto_region 25 with(gi_at_builtin;refine Fk rfl _ _ (D2 (AT a) y) rfl (zb+2) _ _ hoO rfl _ rfl rfl (by omega) hb5z ?_;intro v' w' hown' hg hmv;obtain⟨ao',cap',hv'⟩:=hown'.slice;rw[List.length_append,List.length_singleton]at hv';subst hv';have HST:=Ab (HB5.out.stepP hown' hg hmv hb5z);have k2:=Aa 1 HST.out.1;have f2:=Ay 1 HST.out.1;clear hown' hg hmv)
     obtain⟨-,hB6,hk6,hf6⟩:=HST.out;have HF6:=Ab hf6;clear HST k2 f2 g0 hoO HB5;generalize w'.setCell ⟨zn+1,1,none⟩ (.slice ao' (gm.prio.length+1) cap')=w6' at*;have g0:w6'.cell? ⟨zn+1,2,none⟩=some (.slice a2 gm.succ.length s2):=Aa 2 hB6.g.box;have hoO:w6'.ownsRow (zb+2) 26 1 (.slice a2 gm.succ.length s2) gm.succ.length vals:=hB6.g.r;have HB6:=Ab hB6;have HK6:=Ab hk6;have hb6z:zb+2<=w6'.heap.size:=Nat.le_trans hb5z hk6.size;have g1:w6'.cell? ⟨wr.heap.size,0,none⟩=some (.slice aS nums.length kS):=Aa 0 hB6.bs;clear hB6 hk6 hf6 w'
     gi_upto_region 10 with(gi_at_builtin;refine N3 rfl _ _ _ rfl (zb+2) _ _ _ hoO rfl _ rfl rfl rfl (by omega) hb6z ?_;intro v' w' hown' hg hmv;obtain⟨ao',cap',hv'⟩:=AU hown';subst hv';have HST:=Ab (HB6.out.stepR hown' hg hmv hb6z);have k2:=Aa 2 HST.out.1;have f2:=Ay 2 HST.out.1;clear hown' hg hmv)
     obtain⟨-,hB7,hk7,hf7⟩:=HST.out;have HF7:=Ab hf7;clear HST k2 f2 g0 g1 hoO HB6;have HB7:=Ab hB7;have HK7:=Ab hk7;have hsz7:=hk7.size;clear hB7 hk7 hf7;generalize w'.setCell ⟨zn+1,2,none⟩ (.slice ao' (gm.succ.length+1) cap')=w7' at*
     gi_wp2_with fail
     refine HJK.out _ _ _ ?_ (HJJ.out (most-(k+1)) _ _ ⟨k+1,L,_,_,_,_,_,_,{gh:=rfl,ap:=HAP.out,bo:=by rw[HPG3.out];exact HB7.out,bl:=HBL3.out.trans (HK5.out.trans (HK6.out.trans HK7.out)),ok:=HOK2.out,mks:=((HME2.out.keeps (DS HF5.out (by omega))).keeps (DS HF6.out (by omega))).keeps (DS HF7.out (by omega)),n1:= ?_},FrB.mk' _ _ _ _ _ _ _ _ _ _ _ _ _ _ _ _ _ _ _ _ _ _ _ _ _ _ _ _ _ _ _ _ _ _ _ _ _ _ _ _ _ _ _ _ _ _ _ _ _ _ _ _ _ _ _ _ _ _ _ _ _ _ _ _ _ _ _ _ _ _ _ _ _ _ _ _ _ _ _ _ _ _ _ _ _ _ _ _ _ _ _ _ _ _ _ _ _ _ _ _ _ _ _ _ _ _ _ _ _ _ _ _ _ _ _ _ _ _ _ _ (by simp)⟩)
     ·rw[HR.out.gh];omega
     ·have q5:=HK5.out.size;have q6:=HK6.out.size;omega
   case stop=>
    rintro D c pre W hD ⟨j,hj,rfl⟩ hx hKd;obtain rfl:=hx.ret
    have hnone:FT a l most=none:=by
     unfold FT;have hg:=hx.gt;rw[Jn]at hg;have hg2:=J0 pls S j;refine HR.out.ap.fail hlt ?_;rw[<-HY.out,<-HSS.out];omega
    have HNO:=Ab hnone;clear hnone
    gi_wp2
    refine Ey (n₁:=zn+2) _ _ (BU.cons hmk1 hx.mks (by omega) hD hKd) fun W' h4 h5=> ?_
    have s1:=h5 _ _ hx.r1 rfl;have s2:=Aa 0 (h5 _ _ hx.r2 rfl);have s3:=Aa 0 (h5 _ _ hx.r3 rfl);refine⟨_,FJ (by rfl) _ _ ⟨w.heap.size+1+1,0,none⟩ ⟨w.heap.size+1+1+1,0,none⟩ ⟨w.heap.size+1+1+1+1,0,none⟩ (.agg #[.slice none 0 0,.slice none 0 0,.slice none 0 0]) (.slice none 0 0) (.int .i64 2) rfl rfl rfl (run_loadVar_row W' _ _ _ _ _ _ s1 Tryz.underlying65 (by rfl) (by rfl)) (by go_simp) (by go_simp), ?_⟩;show Gc a l (FT a l most) w _ _;rw[HNO.out];exact⟨rfl,hx.bl.trans (h4.mono (by omega))⟩
end Go.Proofs.YtncjeamdkjcebaaGreatDoor
