/- What Build computes. -/
import Derived.Test.YtncjeamdkjcebaaGreatDoorYAr16
set_option linter.all false
set_option maxHeartbeats 8000000
set_option maxRecDepth 100000
namespace Go.Proofs.YtncjeamdkjcebaaGreatDoor
open Go.RowKit Go.Shelf
attribute [local go_sem] Oper.semAt_some
def GOK(w:World)(vl:Value)(a:Au)(l:List Sig)(ao2 ao3:Option Addr)(n2 cap2 n3 cap3:Nat)(most:Int)(ix:Nat)(u:Value)(_:World):Prop:=
 match ix with
 |0|11=>u=vl
 |1|5=>u=.bool true
 |2|3|6|7|8|13|14|15|17|18|19|21|22=>u=.bool false
 |4=>u=.agg #[.int .i64 a.letters,.int .i64 a.start,.slice ao2 n2 cap2,.slice ao3 n3 cap3]
 |9=>u=.pointer (some ⟨w.heap.size,0,none⟩)
 |10=>u=.int .i64 a.letters
 |12=>u=.int .i64 (Ay l)
 |16|20=>u=.int .i64 most
 | _=>True
def G12(a:Au)(l:List Sig)(ao2 ao3 aot:Option Addr)(n2 cap2 cap3 capt gp np capp k B:Nat)(y:UE)(ix:Nat)(u:Value)(W:World):Prop:=
 match ix with
 |0=>u=.agg #[.int .i64 a.letters,.int .i64 a.start,.slice ao2 n2 cap2,.slice ao3 n2 cap3,.int .i64 (AU a),.slice aot (Ap l).length capt]
 |1=>u=.slice (some ⟨gp,0,none⟩) np capp
 |2=>u=.int .i64 (k:Int)
 |3=>u=.pointer (some ⟨gp,k*3,none⟩)
 |4=>u=.agg #[.int .i64 y.st,.int .i64 y.inn,.int .i64 y.pr]
 |5=>∃x,u=.func (.func 112) #[] #[.pointer (some ⟨x+1,0,none⟩),.pointer (some ⟨x,0,none⟩)]/\B<=x/\W.heap[x]? =some (.cells #[.int .i64 a.letters,.int .i64 a.start,.slice ao2 n2 cap2,.slice ao3 n2 cap3,.int .i64 (AU a),.slice aot (Ap l).length capt] 105 (0,0))/\W.heap[x+1]? =some (.cells (plC y) 108 (0,0))
 | _=>True
theorem G12.mono{a:Au}{l:List Sig}{f i j:Option Addr}{n2 b c e gp np d k B:Nat}{y:UE}(ix:Nat)(u:Value)(W W':World)(h:G12 a l f i j n2 b c e gp np d k B y ix u W)(hb:Below W.heap.size W W'):G12 a l f i j n2 b c e gp np d k B y ix u W':=by
 unfold G12 at*
 split at h<;>first|exact h|(obtain⟨o,h1,h2,h3,h4⟩:=h;exact⟨o,h1,h2,(hb.block o (ltE h3)).trans h3,B8 hb h4⟩)
theorem OP.some{w:World}{B n a:Nat}{ao:Option Addr}{l:List UE}(h:OP w B (.slice ao n a) l)(h0:0<l.length):∃g,ao=some ⟨g,0,none⟩:=by
 rcases h.2 with⟨_,h1⟩|⟨g,c,b,h1,_⟩
 ·omega
 ·simp only[Value.slice.injEq]at h1;exact⟨g,h1.1⟩
def G22(a:Au)(l:List Sig)(ao2 ao3 aot:Option Addr)(n2 cap2 cap3 capt gp np capp k:Nat)(y:UE)(ix:Nat)(u:Value)(_:World):Prop:=
 match ix with
 |0=>u=.agg #[.int .i64 a.letters,.int .i64 a.start,.slice ao2 n2 cap2,.slice ao3 n2 cap3,.int .i64 (AU a),.slice aot (Ap l).length capt]
 |1=>u=.slice (some ⟨gp,0,none⟩) np capp
 |2=>u=.int .i64 (k:Int)
 |3=>u=.pointer (some ⟨gp,k*3,none⟩)
 |4=>u=.agg #[.int .i64 y.st,.int .i64 y.inn,.int .i64 y.pr]
 |5|6=>u=.tuple #[.int .i64 (Ex y),.int .i64 (Ey (AU a) y)]
 |7|9=>u=.int .i64 (Ex y)
 |8|10=>u=.int .i64 (Ey (AU a) y)
 | _=>True
def Gj(a:Au)(l:List Sig)(most:Nat):Option (List UE):=Kw (AZ a (Ap l)) most (most+1) 0 [⟨a.start,-1,AU a⟩]
def GG(a:Au)(l:List Sig)(r:Option (List UE))(w:World)(e:Ending)(w':World):Prop:=
 match r with
 |some pls=>∃vg vp,e=.returned (.tuple #[vg,vp,.int .i64 0])/\Cx w' vg (C0 (AZ a (Ap l)) (AU a) pls pls.length)/\CA w' vp pls/\Below w.heap.size w w'
 |none=>e=.returned (.tuple #[.agg #[.slice none 0 0,.slice none 0 0,.slice none 0 0],.slice none 0 0,.int .i64 2])/\Below w.heap.size w w'
set_option maxRecDepth 100000
def FrB(vl:Value)(h zb zn k:Nat)(ds:List Deferred)(a':Act):Prop:=∃f:Nat->Value,a'={tmps:=(vl::f 1::f 2::f 3::.pointer (some ⟨h,0,none⟩)::.pointer (some ⟨h+1,0,none⟩)::.pointer (some ⟨h+1+1,0,none⟩)::.pointer (some ⟨h+1+1+1,0,none⟩)::.pointer (some ⟨h+1+1+1+1,0,none⟩)::.pointer (some ⟨zb,0,none⟩)::f 10::.pointer (some ⟨zb+2+1,0,none⟩)::.pointer (some ⟨zn,0,none⟩)::.pointer (some ⟨zn+1,0,none⟩)::.int .i64 (k:Int)::(List.range 110).map fun i=>f (i+15)).toArray,defers:=ds}
theorem FrB.mk'{vl:Value}{h zb zn k:Nat}{ds:List Deferred}{u1 u2 u3 ae af ag ah ai aj ak al am an ao ap aq ar au av aw ax ay az a0 a1 a2 a3 a4 a5 a6 a7 a8 a9 ba bb bc bd be bf bg bh bi bj bk bl bm bn bo bp bq br bs bu bv bw bx bz b0 b1 b2 b3 b4 b5 b6 b7 b8 b9 ca cb cc cd ce cf cg ch ci cj ck cl cm cn co cp cq cr cs ct cu cv a b c d e f j l m n o p q r s u v w x y z aa ab ac ad:Value}{i:Int}(hi:i=(k:Int)):FrB vl h zb zn k ds {tmps:=(vl::u1::u2::u3::.pointer (some ⟨h,0,none⟩)::.pointer (some ⟨h+1,0,none⟩)::.pointer (some ⟨h+1+1,0,none⟩)::.pointer (some ⟨h+1+1+1,0,none⟩)::.pointer (some ⟨h+1+1+1+1,0,none⟩)::.pointer (some ⟨zb,0,none⟩)::ae::.pointer (some ⟨zb+2+1,0,none⟩)::.pointer (some ⟨zn,0,none⟩)::.pointer (some ⟨zn+1,0,none⟩)::.int .i64 i::af::ag::ah::ai::aj::ak::al::am::an::ao::ap::aq::ar::au::av::aw::ax::ay::az::a0::a1::a2::a3::a4::a5::a6::a7::a8::a9::ba::bb::bc::bd::be::bf::bg::bh::bi::bj::bk::bl::bm::bn::bo::bp::bq::br::bs::bu::bv::bw::bx::bz::b0::b1::b2::b3::b4::b5::b6::b7::b8::b9::ca::cb::cc::cd::ce::cf::cg::ch::ci::cj::ck::cl::cm::cn::co::cp::cq::cr::cs::ct::cu::cv::a::b::c::d::e::f::j::l::m::n::o::p::q::r::s::u::v::w::x::y::z::aa::ab::ac::ad::[]).toArray,defers:=ds}:=by
 subst hi;exact⟨fun i=>(undef::u1::u2::u3::undef::undef::undef::undef::undef::undef::ae::undef::undef::undef::undef::af::ag::ah::ai::aj::ak::al::am::an::ao::ap::aq::ar::au::av::aw::ax::ay::az::a0::a1::a2::a3::a4::a5::a6::a7::a8::a9::ba::bb::bc::bd::be::bf::bg::bh::bi::bj::bk::bl::bm::bn::bo::bp::bq::br::bs::bu::bv::bw::bx::bz::b0::b1::b2::b3::b4::b5::b6::b7::b8::b9::ca::cb::cc::cd::ce::cf::cg::ch::ci::cj::ck::cl::cm::cn::co::cp::cq::cr::cs::ct::cu::cv::a::b::c::d::e::f::j::l::m::n::o::p::q::r::s::u::v::w::x::y::z::aa::ab::ac::ad::[]).getD i undef,rfl⟩
theorem FrB.elim{motive:Act->Prop}{vl:Value}{h zb zn k:Nat}{ds:List Deferred}{a':Act}(hf:FrB vl h zb zn k ds a')(hm:∀{u1 u2 u3 ae af ag ah ai aj ak al am an ao ap aq ar au av aw ax ay az a0 a1 a2 a3 a4 a5 a6 a7 a8 a9 ba bb bc bd be bf bg bh bi bj bk bl bm bn bo bp bq br bs bu bv bw bx bz b0 b1 b2 b3 b4 b5 b6 b7 b8 b9 ca cb cc cd ce cf cg ch ci cj ck cl cm cn co cp cq cr cs ct cu cv a b c d e i j l m n o p q r s u v w x y z aa ab ac ad:Value},motive {tmps:=(vl::u1::u2::u3::.pointer (some ⟨h,0,none⟩)::.pointer (some ⟨h+1,0,none⟩)::.pointer (some ⟨h+1+1,0,none⟩)::.pointer (some ⟨h+1+1+1,0,none⟩)::.pointer (some ⟨h+1+1+1+1,0,none⟩)::.pointer (some ⟨zb,0,none⟩)::ae::.pointer (some ⟨zb+2+1,0,none⟩)::.pointer (some ⟨zn,0,none⟩)::.pointer (some ⟨zn+1,0,none⟩)::.int .i64 (k:Int)::af::ag::ah::ai::aj::ak::al::am::an::ao::ap::aq::ar::au::av::aw::ax::ay::az::a0::a1::a2::a3::a4::a5::a6::a7::a8::a9::ba::bb::bc::bd::be::bf::bg::bh::bi::bj::bk::bl::bm::bn::bo::bp::bq::br::bs::bu::bv::bw::bx::bz::b0::b1::b2::b3::b4::b5::b6::b7::b8::b9::ca::cb::cc::cd::ce::cf::cg::ch::ci::cj::ck::cl::cm::cn::co::cp::cq::cr::cs::ct::cu::cv::a::b::c::d::e::i::j::l::m::n::o::p::q::r::s::u::v::w::x::y::z::aa::ab::ac::ad::[]).toArray,defers:=ds}):motive a':=by
 obtain⟨f,rfl⟩:=hf;exact hm
def FrI(vl:Value)(h zb zn zS zt:Nat)(a':Act):Prop:=∃f:Nat->Value,a'={tmps:=(vl::f 1::f 2::f 3::.pointer (some ⟨h,0,none⟩)::.pointer (some ⟨h+1,0,none⟩)::.pointer (some ⟨h+1+1,0,none⟩)::.pointer (some ⟨h+1+1+1,0,none⟩)::.pointer (some ⟨h+1+1+1+1,0,none⟩)::.pointer (some ⟨zb,0,none⟩)::f 10::.pointer (some ⟨zb+2+1,0,none⟩)::.pointer (some ⟨zn,0,none⟩)::.pointer (some ⟨zn+1,0,none⟩)::f 14::.pointer (some ⟨zS,0,none⟩)::.pointer (some ⟨zt,0,none⟩)::(List.range 108).map fun i=>f (i+17)).toArray,defers:=[]}
theorem FrI.mk{vl:Value}{h zb zn zS zt:Nat}{u1 u2 u3 ad ae af ag ah ai aj ak al am an ao ap aq ar au av aw ax ay az a0 a1 a2 a3 a4 a5 a6 a7 a8 a9 ba bb bc bd be bf bg bh bi bj bk bl bm bn bo bp bq br bs bu bv bw bx bz b0 b1 b2 b3 b4 b5 b6 b7 b8 b9 ca cb cc cd ce cf cg ch ci cj ck cl cm cn co cp cq cr cs ct a b c d e f j k l m n o p q r s u v w x y z aa ab ac:Value}:FrI vl h zb zn zS zt {tmps:=(vl::u1::u2::u3::.pointer (some ⟨h,0,none⟩)::.pointer (some ⟨h+1,0,none⟩)::.pointer (some ⟨h+1+1,0,none⟩)::.pointer (some ⟨h+1+1+1,0,none⟩)::.pointer (some ⟨h+1+1+1+1,0,none⟩)::.pointer (some ⟨zb,0,none⟩)::ad::.pointer (some ⟨zb+2+1,0,none⟩)::.pointer (some ⟨zn,0,none⟩)::.pointer (some ⟨zn+1,0,none⟩)::ae::.pointer (some ⟨zS,0,none⟩)::.pointer (some ⟨zt,0,none⟩)::af::ag::ah::ai::aj::ak::al::am::an::ao::ap::aq::ar::au::av::aw::ax::ay::az::a0::a1::a2::a3::a4::a5::a6::a7::a8::a9::ba::bb::bc::bd::be::bf::bg::bh::bi::bj::bk::bl::bm::bn::bo::bp::bq::br::bs::bu::bv::bw::bx::bz::b0::b1::b2::b3::b4::b5::b6::b7::b8::b9::ca::cb::cc::cd::ce::cf::cg::ch::ci::cj::ck::cl::cm::cn::co::cp::cq::cr::cs::ct::a::b::c::d::e::f::j::k::l::m::n::o::p::q::r::s::u::v::w::x::y::z::aa::ab::ac::[]).toArray,defers:=[]}:=
 ⟨fun i=>(undef::u1::u2::u3::undef::undef::undef::undef::undef::undef::ad::undef::undef::undef::ae::undef::undef::af::ag::ah::ai::aj::ak::al::am::an::ao::ap::aq::ar::au::av::aw::ax::ay::az::a0::a1::a2::a3::a4::a5::a6::a7::a8::a9::ba::bb::bc::bd::be::bf::bg::bh::bi::bj::bk::bl::bm::bn::bo::bp::bq::br::bs::bu::bv::bw::bx::bz::b0::b1::b2::b3::b4::b5::b6::b7::b8::b9::ca::cb::cc::cd::ce::cf::cg::ch::ci::cj::ck::cl::cm::cn::co::cp::cq::cr::cs::ct::a::b::c::d::e::f::j::k::l::m::n::o::p::q::r::s::u::v::w::x::y::z::aa::ab::ac::[]).getD i undef,rfl⟩
theorem FrI.elim{motive:Act->Prop}{vl:Value}{h zb zn zS zt:Nat}{a':Act}(hf:FrI vl h zb zn zS zt a')(hm:∀{u1 u2 u3 ad ae af ag ah ai aj ak al am an ao ap aq ar au av aw ax ay az a0 a1 a2 a3 a4 a5 a6 a7 a8 a9 ba bb bc bd be bf bg bh bi bj bk bl bm bn bo bp bq br bs bu bv bw bx bz b0 b1 b2 b3 b4 b5 b6 b7 b8 b9 ca cb cc cd ce cf cg ch ci cj ck cl cm cn co cp cq cr cs ct a b c d e i j k l m n o p q r s u v w x y z aa ab ac:Value},motive {tmps:=(vl::u1::u2::u3::.pointer (some ⟨h,0,none⟩)::.pointer (some ⟨h+1,0,none⟩)::.pointer (some ⟨h+1+1,0,none⟩)::.pointer (some ⟨h+1+1+1,0,none⟩)::.pointer (some ⟨h+1+1+1+1,0,none⟩)::.pointer (some ⟨zb,0,none⟩)::ad::.pointer (some ⟨zb+2+1,0,none⟩)::.pointer (some ⟨zn,0,none⟩)::.pointer (some ⟨zn+1,0,none⟩)::ae::.pointer (some ⟨zS,0,none⟩)::.pointer (some ⟨zt,0,none⟩)::af::ag::ah::ai::aj::ak::al::am::an::ao::ap::aq::ar::au::av::aw::ax::ay::az::a0::a1::a2::a3::a4::a5::a6::a7::a8::a9::ba::bb::bc::bd::be::bf::bg::bh::bi::bj::bk::bl::bm::bn::bo::bp::bq::br::bs::bu::bv::bw::bx::bz::b0::b1::b2::b3::b4::b5::b6::b7::b8::b9::ca::cb::cc::cd::ce::cf::cg::ch::ci::cj::ck::cl::cm::cn::co::cp::cq::cr::cs::ct::a::b::c::d::e::i::j::k::l::m::n::o::p::q::r::s::u::v::w::x::y::z::aa::ab::ac::[]).toArray,defers:=[]}):motive a':=by
 obtain⟨f,rfl⟩:=hf;exact hm
theorem Pn(w:World)(vl va:Value)(l:List Sig)(a:Au)(s:Nat)(hK:B7 w)(hl:AD w vl l)(ha:Cw w va a)(hv:As l=true)(h1:AC a=true)(h2:(a.letters !=Ay l)=false)(h3:decide ((s:Int)<1)=false)(h4:decide (3000<(s:Int))=false):
  Calls Tryz.prog 37 #[vl,va,.int .i64 (s:Int)] w (GG a l (Gj a l s) w):=by
 have HS:Hid (∀W,Below w.heap.size w W->Calls Tryz.prog 41 #[vl] W (Av (.bool (As l)) W)):=fun W h=>by
  refine(CC W _ l (hK.below h) (hl.below h)).mono ?_;rintro e W' ⟨rfl,n,rfl⟩;exact⟨rfl,Aj _ _ _⟩
 have HA:Hid (∀W,Below w.heap.size w W->Calls Tryz.prog 73 #[va] W (Av (.bool (AC a)) W)):=fun W h=>IF W _ a (ha.below h)
 have fj:Hid (∀W,Below w.heap.size w W->Calls Tryz.prog 67 #[vl] W (Av (.int .i64 (Ay l)) W)):=fun W h=>EH W _ l (hK.below h) (hl.below h)
 have ck:Hid (∀W,Below w.heap.size w W->Calls Tryz.prog 74 #[vl,va] W (GF va a l W)):=fun W h=>MW W _ _ l a (hK.below h) (hl.below h) (ha.below h) hv
 have de:=Ab (fun(W:World)(h:Below w.heap.size w W)=>ha.below h)
 have he:a.letters=Ay l:=by simpa using h2
 have bf:=Ab (Uz hv h1 he);have cr:=Ab h1
 have ls:1<=s:=by have:=of_decide_eq_false h3;omega
 have m7:s<=3000:=by have:=of_decide_eq_false h4;omega
 have aa:Hid (0<=a.start/\a.start<a.next.length):=by
  have:=h1;simp only[AC,Bool.and_eq_true,decide_eq_true_eq]at this;exact this.1.2
 have fs:a.prio.length=a.next.length:=bf.out.pl;have g9:Hid (WfP ⟨a.start,-1,AU a⟩):=(Mb h1 bf.out).2;have k9:Hid (Ij a (Ap l) ⟨a.start,-1,AU a⟩/\PlW ⟨a.start,-1,AU a⟩):=(Mb h1 bf.out).1;have dh:Hid (1<=(Ap l).length/\(Ap l).length<=64):=bf.out.t;rw[hv]at HS;rw[h1]at HA;clear he hv h1;obtain⟨ao,lf,b,nh,rfl,-⟩:=hl;obtain⟨nk,nl,rfl,-,⟨V2,⟨ad,u,b2,mr,rfl,-⟩,-⟩,⟨V3,⟨ae,v,b3,ms,rfl,-⟩,-⟩⟩:=ha;have la:=Ab fs;rw[fs]at ck HA de⊢;clear fs;obtain⟨vl,ij⟩:∃vl,vl=Value.slice ao l.length lf:=⟨_,rfl⟩;rw[<-ij]at HS fj ck⊢;obtain⟨n2,cd⟩:∃n2,n2=a.next.length:=⟨_,rfl⟩;rw[<-cd]at ck HA de⊢;obtain⟨n3,ia⟩:∃n3,n3=n2:=⟨_,rfl⟩
 have du:Tryz.prog.follows .mixedOrders=true:=by kernel_rfl
 have fl:=Ab cd;clear hK ij cd ia n3;obtain⟨gb,h8⟩:∃gb,gb=s:=⟨_,rfl⟩;refine callsIn_wide (n:=5)|>.1 ?_;refine Bz Tryz.func37 rfl trivial ?_;simp only[Tryz.ntmps37,List.size_toArray,List.length_cons,List.length_nil,Nat.reduceAdd,Nat.reduceSub,Array.replicate_succ,Array.replicate_zero,List.push_toArray,List.append_toArray,List.nil_append,List.cons_append]
 gi_wp2
 clear h8 gb;obtain⟨w5,eW⟩:∃W,W=((((w.alloc (.cells #[.int .i64 a.letters,.int .i64 a.start,.slice ad n2 u,.slice ae n2 v] 63)).alloc (.cells #[.int .i64 s] 3)).alloc (.cells #[.slice none 0 0,.slice none 0 0,.slice none 0 0] 65)).alloc (.cells #[.slice none 0 0] 66)).alloc (.cells #[.int .i64 0] 39):=⟨_,rfl⟩
 have al:Below w.heap.size w w5:=by rw[eW];exact(by repeat(first|exact Ad|assumption|apply AE|apply AB))
 have fw:w5.heap[w.heap.size]? =some (.cells #[.int .i64 a.letters,.int .i64 a.start,.slice ad n2 u,.slice ae n2 v] 63 (0,0)):=by rw[eW];exact(by(repeat(rw[Am];first|rw[if_pos (by first|simp;done|simp;omega)]|rw[if_neg (by first|simp;done|simp;omega)]));(try rfl))
 have f5:w5.heap[w.heap.size+1]? =some (.cells #[.int .i64 s] 3 (0,0)):=by rw[eW];exact(by(repeat(rw[Am];first|rw[if_pos (by first|simp;done|simp;omega)]|rw[if_neg (by first|simp;done|simp;omega)]));(try rfl))
 have id:w5.heap[w.heap.size+1+1]? =some (.cells #[.slice none 0 0,.slice none 0 0,.slice none 0 0] 65 (0,0)):=by rw[eW];exact(by(repeat(rw[Am];first|rw[if_pos (by first|simp;done|simp;omega)]|rw[if_neg (by first|simp;done|simp;omega)]));(try rfl))
 have ig:w5.heap[w.heap.size+1+1+1]? =some (.cells #[.slice none 0 0] 66 (0,0)):=by rw[eW];exact(by(repeat(rw[Am];first|rw[if_pos (by first|simp;done|simp;omega)]|rw[if_neg (by first|simp;done|simp;omega)]));(try rfl))
 have fx:w5.heap[w.heap.size+1+1+1+1]? =some (.cells #[.int .i64 0] 39 (0,0)):=by rw[eW];exact(by(repeat(rw[Am];first|rw[if_pos (by first|simp;done|simp;omega)]|rw[if_neg (by first|simp;done|simp;omega)]));(try rfl))
 rw[<-eW];clear eW;have nc:=(ltE fx)
 have ci:Hid (∀W,Below w5.drew.heap.size w5.drew W->Below w.heap.size w W):=fun W h=>al.trans (((Below.drew Ad).trans h).mono al.size)
 have df:Hid (∀W,Below w5.drew.heap.size w5.drew W->Below w5.heap.size w5 W):=fun W h=>(Below.drew (B:=w5.heap.size) Ad).trans h
 have g5:Hid (∀W,Below w5.drew.heap.size w5.drew W->W.cell? ⟨w.heap.size,0,none⟩=some (.int .i64 a.letters)/\W.cell? ⟨w.heap.size,1,none⟩=some (.int .i64 a.start)/\W.cell? ⟨w.heap.size,2,none⟩=some (.slice ad n2 u)/\W.cell? ⟨w.heap.size,3,none⟩=some (.slice ae n2 v)):=fun W h=>by
  have k:=((df.out W h).block _ (by omega)).trans fw;exact⟨Aa 0 k,Aa 1 k,Aa 2 k,Aa 3 k⟩
 have g7:Hid (∀W,Below w5.drew.heap.size w5.drew W->W.cell? ⟨w.heap.size+1,0,none⟩=some (.int .i64 s)):=fun W h=>cell_of_row W (w.heap.size+1) 0 _ _ _ (((df.out W h).block _ (by omega)).trans f5)
 have bg:Hid (∀W,Below w5.heap.size w5 W->(W.heap[w.heap.size]? =some (.cells #[.int .i64 a.letters,.int .i64 a.start,.slice ad n2 u,.slice ae n2 v] 63 (0,0))/\W.heap[w.heap.size+1]? =some (.cells #[.int .i64 s] 3 (0,0)))/\W.heap[w.heap.size+1+1]? =some (.cells #[.slice none 0 0,.slice none 0 0,.slice none 0 0] 65 (0,0))/\W.heap[w.heap.size+1+1+1]? =some (.cells #[.slice none 0 0] 66 (0,0))/\W.heap[w.heap.size+1+1+1+1]? =some (.cells #[.int .i64 0] 39 (0,0))):=fun W h=>⟨⟨(h.block _ (by omega)).trans fw,(h.block _ (by omega)).trans f5⟩,(h.block _ (by omega)).trans id,(h.block _ (by omega)).trans ig,(h.block _ (by omega)).trans fx⟩
 clear fw f5 id ig fx;refine DV du (GOK w vl a l ad ae n2 u n2 v s) (fun vs=>{tmps:=(_::_::_::_::_::_::_::_::_::_::_::_::_::_::_::_::_::_::_::_::_::vs 0::vs 1::vs 2::vs 3::vs 4::vs 5::vs 6::vs 7::vs 8::vs 9::vs 10::vs 11::vs 12::vs 13::vs 14::vs 15::vs 16::vs 17::vs 18::vs 19::vs 20::vs 21::vs 22::_::_::_::_::_::_::_::_::_::_::_::_::_::_::_::_::_::_::_::_::_::_::_::_::_::_::_::_::_::_::_::_::_::_::_::_::_::_::_::_::_::_::_::_::_::_::_::_::_::_::_::_::_::_::_::_::_::_::_::_::_::_::_::_::_::_::_::_::_::_::_::_::_::_::_::_::_::_::_::_::_::[]).toArray,defers:=[]}) (fun _=>undef) rfl (by kernel_rfl) (fun _ _ _ _ h _=>h) ?step ?fin
 case step=>
  intro ix o ho
  match ix,ho with
  |0,ho|2,ho|3,ho|6,ho|7,ho|8,ho|9,ho|11,ho|13,ho|14,ho|15,ho|17,ho|18,ho|19,ho|21,ho|22,ho=>
    obtain rfl:=osI ho;intro vs W K hB hD hK;have HK:=Ab hK
    try have e1:vs 1=.bool true:=Ac hD 1 rfl
    try have e2:vs 2=.bool false:=Ac hD 2 rfl
    try have e3:vs 3=.bool false:=Ac hD 3 rfl
    try have e5:vs 5=.bool true:=Ac hD 5 rfl
    try have e6:vs 6=.bool false:=Ac hD 6 rfl
    try have e7:vs 7=.bool false:=Ac hD 7 rfl
    try have e8:vs 8=.bool false:=Ac hD 8 rfl
    try have fq:vs 10=.int .i64 a.letters:=Ac hD 10 rfl
    try have mu:vs 12=.int .i64 (Ay l):=Ac hD 12 rfl
    try have mv:vs 13=.bool false:=Ac hD 13 rfl
    try have mw:vs 14=.bool false:=Ac hD 14 rfl
    try have lh:vs 15=.bool false:=Ac hD 15 rfl
    try have mx:vs 16=.int .i64 s:=Ac hD 16 rfl
    try have my:vs 17=.bool false:=Ac hD 17 rfl
    try have mz:vs 18=.bool false:=Ac hD 18 rfl
    try have li:vs 19=.bool false:=Ac hD 19 rfl
    try have m0:vs 20=.int .i64 s:=Ac hD 20 rfl
    try have m1:vs 21=.bool false:=Ac hD 21 rfl
    clear hK hD ho;dsimp only;go_simp;have h:=HK.out _ _ Ad rfl;simp only[upd,Nat.reduceEqDiff,reduceIte, *]at h;exact h
  |1,ho=>
    obtain rfl:=osI ho;intro vs W K hB hD hK;have HK:=Ab hK;have e0:vs 0=vl:=Ac hD 0 rfl;clear hK hD ho;dsimp only;go_simp;refine⟨trivial, ?_⟩;refine(callsIn_wide.2 (HS.out W (ci.out W hB))).mono ?_;rintro e W' ⟨rfl,hb⟩;have h:=HK.out _ _ hb rfl;simp only[upd,Nat.reduceEqDiff,reduceIte,e0]at h;exact h
  |4,ho|10,ho=>
    obtain rfl:=osI ho;intro vs W K hB hD hK;have HK:=Ab hK
    try have e3:vs 3=.bool false:=Ac hD 3 rfl
    try have e8:vs 8=.bool false:=Ac hD 8 rfl
    try have e9:vs 9=.pointer (some ⟨w.heap.size,0,none⟩):=Ac hD 9 rfl
    obtain⟨d0,d1,d2,d3⟩:=g5.out W hB;clear hK hD ho;dsimp only;go_simp;have h:=HK.out _ _ Ad rfl;simp only[upd,Nat.reduceEqDiff,reduceIte, *]at h;exact h
  |5,ho=>
    obtain rfl:=osI ho;intro vs W K hB hD hK;have HK:=Ab hK;have e3:vs 3=.bool false:=Ac hD 3 rfl;have e4:vs 4=.agg #[.int .i64 a.letters,.int .i64 a.start,.slice ad n2 u,.slice ae n2 v]:=Ac hD 4 rfl;clear hK hD ho;dsimp only;go_simp;refine⟨trivial, ?_⟩;refine(callsIn_wide.2 (HA.out W (ci.out W hB))).mono ?_;rintro e W' ⟨rfl,hb⟩;have h:=HK.out _ _ hb rfl;simp only[upd,Nat.reduceEqDiff,reduceIte,e3,e4]at h;exact h
  |12,ho=>
    obtain rfl:=osI ho;intro vs W K hB hD hK;have HK:=Ab hK;have e8:vs 8=.bool false:=Ac hD 8 rfl;have lg:vs 11=vl:=Ac hD 11 rfl;clear hK hD ho;dsimp only;go_simp;refine⟨trivial, ?_⟩;refine(callsIn_wide.2 (fj.out W (ci.out W hB))).mono ?_;rintro e W' ⟨rfl,hb⟩;have h:=HK.out _ _ hb rfl;simp only[upd,Nat.reduceEqDiff,reduceIte,e8,lg]at h;exact h
  |16,ho|20,ho=>
    obtain rfl:=osI ho;intro vs W K hB hD hK;have HK:=Ab hK
    try have lh:vs 15=.bool false:=Ac hD 15 rfl
    try have li:vs 19=.bool false:=Ac hD 19 rfl
    have d5:=g7.out W hB;clear hK hD ho;dsimp only;go_simp;have h:=HK.out _ _ Ad rfl;simp only[upd,Nat.reduceEqDiff,reduceIte, *]at h;exact h
  |q+23,ho=>exact absurd ho (by simp)
 case fin=>
  intro vs w6 hB ab;have hd:vs 22=.bool false:=ab 22 (by decide);have an:=ci.out w6 hB;have dl:=df.out w6 hB;clear ab hB df g5 g7 ci HS HA fj;rw[hd];clear hd;obtain⟨⟨ga,gm⟩,gg,gp,ge⟩:=bg.out w6 dl;have c0:=Aa 0 ga;have c1:=Aa 1 ga;have c2:=Aa 2 ga;have c3:=Aa 3 ga
  gi_wp2_with fail
  refine⟨trivial, ?_⟩;refine(callsIn_wide.2 (ck.out w6 an)).mono ?_;rintro e w7 ⟨v2,v3,vt,ev,rfl,bk,dq⟩;have ln:=(de.out w6 an).below dq;obtain⟨x2,x3,ex,-,ce,cf⟩:=ln;simp only[Value.agg.injEq,Array.mk.injEq,List.cons.injEq,true_and,and_true]at ev ex;obtain⟨rfl,rfl⟩:=ev;obtain⟨rfl,rfl⟩:=ex;have lm:=bk;obtain⟨VT,⟨am,af,bt,mt,rfl,-⟩,-⟩:=lm;have dm:=dl.trans (dq.mono dl.size);have b9:=an.trans (dq.mono an.size);clear c0 c1 c2 c3 ga gm gg gp ge dq ck de an dl
  have nf:w.heap.size+5<=w7.heap.size:=by have:=dm.size;omega
  gi_upto_region 4 with(fail)
  generalize c5:Obj.cells #[Value.int IntKind.i64 a.letters,Value.int IntKind.i64 a.start,Value.slice ad n2 u,Value.slice ae n2 v,Value.int IntKind.i64 (AU a),Value.slice am (Ap l).length af] 105=bo at*;have ca:Below w7.heap.size w7 (w7.alloc bo):=Ao _;have dn:=dm.trans (ca.mono dm.size);have cc:(w7.alloc bo).heap[w7.heap.size]? =some bo:=heap_alloc_new _ _
  have f9:(w7.alloc bo).heap.size=w7.heap.size+1:=by simp
  have fr:=b9.trans (ca.mono b9.size);replace ce:=ce.below ca;replace cf:=cf.below ca;replace bk:=bk.below ca;generalize w7.alloc bo=w8 at*;rw[<-c5]at cc;clear ca b9 dm c5 bo;generalize w7.heap.size=zb at*;have cs:=Aa 1 (bg.out w8 dn).1.1;have ct:=Aa 4 cc
  gi_upto_region 5 with(fail)
  generalize vs 0=q0,vs 1=q1,vs 2=q2,vs 3=q3,vs 4=q4,vs 5=q5,vs 6=q6,vs 7=q7,vs 8=q8,vs 9=q9,vs 10=lz,vs 11=l0,vs 12=l1,vs 13=l2,vs 14=l3,vs 15=l4,vs 16=l5,vs 17=l6,vs 18=l7,vs 19=l8,vs 20=l9,vs 21=ma;clear vs cs ct;have ay:Below w8.heap.size w8 (w8.alloc (Obj.cells #[Value.int IntKind.i64 a.start,Value.int IntKind.i64 (-1),Value.int IntKind.i64 (AU a)] 108)):=Ao _;have dp:=dn.trans (ay.mono dn.size)
  have a5:(w8.alloc (Obj.cells #[Value.int IntKind.i64 a.start,Value.int IntKind.i64 (-1),Value.int IntKind.i64 (AU a)] 108)).heap[zb+1]? =some (Obj.cells #[Value.int IntKind.i64 a.start,Value.int IntKind.i64 (-1),Value.int IntKind.i64 (AU a)] 108):=by rw[<-f9];exact heap_alloc_new _ _
  have a7:(w8.alloc (Obj.cells #[Value.int IntKind.i64 a.start,Value.int IntKind.i64 (-1),Value.int IntKind.i64 (AU a)] 108)).heap.size=zb+2:=by simp[f9]
  have lj:=fr.trans (ay.mono fr.size);replace ce:=ce.below ay;replace cf:=cf.below ay;replace bk:=bk.below ay;replace cc:=(ay.block zb (by omega)).trans cc;generalize w8.alloc (Obj.cells #[Value.int IntKind.i64 a.start,Value.int IntKind.i64 (-1),Value.int IntKind.i64 (AU a)] 108)=w9 at*;clear ay fr dn f9;have fm:=Aa 0 a5;have fo:=Aa 1 a5;have fp:=Aa 2 a5
  gi_upto_region 6 with(fail)
  have bu:Below w9.heap.size w9 ((w9.alloc (Obj.cells #[Value.int IntKind.i64 a.start,Value.int IntKind.i64 (-1),Value.int IntKind.i64 (AU a)] 108)).alloc (Obj.cells #[Value.slice (some ⟨zb+2,0,none⟩) 1 1] 66)):=AE (Ao _) _
  have dd:((w9.alloc (Obj.cells #[Value.int IntKind.i64 a.start,Value.int IntKind.i64 (-1),Value.int IntKind.i64 (AU a)] 108)).alloc (Obj.cells #[Value.slice (some ⟨zb+2,0,none⟩) 1 1] 66)).heap.size=zb+4:=by simp[a7]
  have hq:((w9.alloc (Obj.cells #[Value.int IntKind.i64 a.start,Value.int IntKind.i64 (-1),Value.int IntKind.i64 (AU a)] 108)).alloc (Obj.cells #[Value.slice (some ⟨zb+2,0,none⟩) 1 1] 66)).heap[zb+3]? =some (Obj.cells #[Value.slice (some ⟨zb+2,0,none⟩) 1 1] 66):=by
   have:=heap_alloc_new (w9.alloc (Obj.cells #[Value.int IntKind.i64 a.start,Value.int IntKind.i64 (-1),Value.int IntKind.i64 (AU a)] 108)) (Obj.cells #[Value.slice (some ⟨zb+2,0,none⟩) 1 1] 66)
   rwa [World.size_alloc,a7]at this
  have ic:OP ((w9.alloc (Obj.cells #[Value.int IntKind.i64 a.start,Value.int IntKind.i64 (-1),Value.int IntKind.i64 (AU a)] 108)).alloc (Obj.cells #[Value.slice (some ⟨zb+2,0,none⟩) 1 1] 66)) (zb+2) (.slice (some ⟨zb+2,0,none⟩) 1 1) [⟨a.start,-1,AU a⟩]:=by
   refine World.ownsRow.alloc ⟨rfl,.inr ⟨zb+2,1,#[Value.int IntKind.i64 a.start,Value.int IntKind.i64 (-1),Value.int IntKind.i64 (AU a)],rfl,Nat.le_refl _, ?_,Nat.le_refl _,by decide,rfl,rfl⟩⟩ _;rw[<-a7];exact heap_alloc_new _ _
  generalize((w9.alloc (Obj.cells #[Value.int IntKind.i64 a.start,Value.int IntKind.i64 (-1),Value.int IntKind.i64 (AU a)] 108)).alloc (Obj.cells #[Value.slice (some ⟨zb+2,0,none⟩) 1 1] 66))=cg at*;replace a5:=(bu.block (zb+1) (by omega)).trans a5;clear fm fo fp;have fm:=Aa 0 a5;have fo:=Aa 1 a5;have fp:=Aa 2 a5;have k7:=@run_makeMap Tryz.prog;obtain⟨ac,aw,a6,ar⟩:=(World.ownsMap_made (H:=Unit) cg Tryz.prog 108 (plainElem Tryz.prog 3)).update DG Tryz.underlying109 (by decide) (Jb _ g9.out) (plainElem_int Tryz.underlying3 (q:=.i64) (a:=0) rfl);rw[dd]at aw ar a6;unfold plV at aw
  gi_upto_region 8 with(fail)
  have ii:zb+5<=ac.heap.size:=by have:=ar.size;simp[dd]at this;omega
  have a9:Below cg.heap.size cg ac:=⟨ar.os,ar.tape,ar.output,by omega,fun k hk=>by
   rw[ar.block k (by simp;omega) (fun e=>by cases e;omega)];exact(Ao (w:=cg) _).block k hk⟩
  have ba:Below ac.heap.size ac ((ac.alloc (Obj.cells #[Value.map (some (zb+4))] 109)).alloc (Obj.cells #[Value.slice none 0 0,Value.slice none 0 0,Value.slice none 0 0] 65)):=AE (Ao _) _
  have mq:((ac.alloc (Obj.cells #[Value.map (some (zb+4))] 109)).alloc (Obj.cells #[Value.slice none 0 0,Value.slice none 0 0,Value.slice none 0 0] 65)).heap.size=ac.heap.size+2:=by simp
  have hm:BO ((ac.alloc (Obj.cells #[Value.map (some (zb+4))] 109)).alloc (Obj.cells #[Value.slice none 0 0,Value.slice none 0 0,Value.slice none 0 0] 65)) (zb+2) (ac.heap.size+1) (zb+2+1) (zb+4) ac.heap.size (.slice none 0 0) (.slice none 0 0) (.slice none 0 0) (.slice (some ⟨zb+2,0,none⟩) 1 1) [] (C0 (AZ a (Ap l)) (AU a) [⟨a.start,-1,AU a⟩] 0) [⟨a.start,-1,AU a⟩]:=by
   have m3:=a9.mono (B:=cg.heap.size) leR;refine {g:= ?_,p:= ?_,bp:= ?_,m:= ?_,bn:= ?_,lo:=⟨by omega,by omega⟩}
   ·have hg:=GB.start (B:=zb+2) (others:=[.slice (some ⟨zb+2,0,none⟩) 1 1,Az (zb+2+1),Az (zb+4),Az ac.heap.size]) (w:=ac.alloc (Obj.cells #[Value.map (some (zb+4))] 109)) (by simp;omega) ?_ ?_
    ·rw[World.size_alloc]at hg;exact hg
    ·simp only[Sep,List.pairwise_cons,List.mem_cons,List.not_mem_nil,or_false,forall_eq_or_imp,forall_eq,AR,Az,Value.ownBlock,Option.some.injEq];refine⟨⟨?_, ?_, ?_⟩,⟨?_, ?_⟩, ?_, ?_,List.Pairwise.nil⟩
     all_goals(intro g h1 h2;first|omega|cases h1)
    ·simp only[List.mem_cons,List.not_mem_nil,or_false,forall_eq_or_imp,forall_eq,Az,Value.ownBlock,Option.some.injEq,World.size_alloc];refine⟨?_, ?_, ?_, ?_⟩
     all_goals(intro g h1;omega)
   ·exact AF ic fun k hk=>by
     obtain rfl:zb+2=k:=by simpa[Value.ownBlock]using hk
     rw[ba.block _ (by omega),a9.block _ (by omega)]
   ·rw[ba.block _ (by omega),a9.block _ (by omega)];exact hq
   ·exact(QP g9.out a6).below ba
   ·exact((Ao (w:=ac.alloc _) _).block _ (by simp)).trans (heap_alloc_new _ _)
  have ay:Below (zb+2) w9 ((ac.alloc (Obj.cells #[Value.map (some (zb+4))] 109)).alloc (Obj.cells #[Value.slice none 0 0,Value.slice none 0 0,Value.slice none 0 0] 65)):=by
   rw[<-a7];exact bu.trans ((a9.mono bu.size).trans (ba.mono (by omega)))
  generalize((ac.alloc (Obj.cells #[Value.map (some (zb+4))] 109)).alloc (Obj.cells #[Value.slice none 0 0,Value.slice none 0 0,Value.slice none 0 0] 65))=nm at*;have ng:zb+5<=ac.heap.size:=ii;clear aw ar a6 a9 ba bu fm fo fp ic hq k7 a5;generalize ac.heap.size=zn at*;clear ac cg dd
  gi_wp2_with fail
  refine wpIn_loop_ghost_k (fun(n':Nat)(a':Act)(w':World)=>∃(k:Nat)(d:List UE)(ds:List Deferred)(v0 v1 v2 vp:Value)(vals:List Value),LR a (Ap l) s ⟨a.start,-1,AU a⟩ (zb+2) (zn+2) (zn+1) (zb+2+1) (zb+4) zn w9 n' k d ds v0 v1 v2 vp vals w'/\FrB vl w.heap.size zb zn k ds a') s ?_ ?_
  ·refine⟨0,[⟨a.start,-1,AU a⟩],[],.slice none 0 0,.slice none 0 0,.slice none 0 0,.slice (some ⟨zb+2,0,none⟩) 1 1,[],{gh:=rfl,ap:=AtP.start ls _,bo:=hm,bl:=ay,ok:= ?_,mks:=BZ.nil _ _,n1:=by omega},FrB.mk' rfl⟩;intro y hy;rw[List.mem_singleton.1 hy];exact k9.out
  clear hm ay q0 q1 q2 q3 q4 q5 q6 q7 q8 q9 lz l0 l1 l2 l3 l4 l5 l6 l7 l8 l9 ma;intro gk ak wr h0 J K HJ HK
  have k3:Hid (∀n' a' w',n'<gk->J n' a' w'->K a' w'):=fun n' a' w' h1 h2=>HK a' w' ⟨n',h1,h2⟩
  have k0:=Ab HJ;clear HJ HK;obtain⟨k,d,ds,v0,v1,v2,vp,vals,av,hw⟩:=h0;refine FrB.elim (motive:=fun x=>Code.wpIn _ _ _ _ _ x wr) hw ?_;clear hw ak;intro u1 u2 u3 ip nj mb iq ir gc gd it iu iv iw iy iz i0 i1 i2 i3 i4 i5 i6 i7 i8 i9 ja jb jc jd je jf jg jh ji jj jl jm jn jo jp jq jr js jt ju jv mc md me mf jw jx dw dx dy dz d6 jy jz j0 j1 j2 j3 j4 j5 j6 j7 j8 j9 ka kb kc kd ke kf kg kh ki kj km kn ko kq kr d7 d8 d9 ea bx bz b0 b1 b4 em en eo ep eq er et eu ew ey ez fa fb fc fd fe ff fg b5 b6;have lx:=av.bo.p.slice;obtain⟨b8,aj,rfl⟩:=lx;have ie:=av.ap.le;have lq:=av.ap.kl;have eg:=Aa 0 av.bo.bp;have nd:zn+2<=wr.heap.size:=av.n1;have HR:=Ab av;clear av
  by_cases hlt:k<d.length
  case neg=>
   obtain rfl:k=d.length:=by omega
   obtain⟨a0,s0,rfl⟩:=HR.out.bo.g.o.slice;obtain⟨a1,s1,rfl⟩:=HR.out.bo.g.p.slice;obtain⟨a2,s2,rfl⟩:=AG HR.out.bo.g.r;have dr:Hid (C0 (AZ a (Ap l)) (AU a) d d.length=C0 (AZ a (Ap l)) (AU a) d d.length):=rfl;have a8:=dp.trans ((show Below w9.heap.size w9 wr from a7▸HR.out.bl).mono dp.size)
   have a4:RB w (zb+2) (zn+2) (zn+1) (zb+2+1) (zb+4) zn _ _ _ _ vals (C0 (AZ a (Ap l)) (AU a) d d.length) d ds wr:=
    {bo:=HR.out.bo,mks:=HR.out.mks,bl:=al.trans (a8.mono al.size),c1:=⟨_,_,_,(bg.out wr a8).2.1⟩,c2:=⟨_,(bg.out wr a8).2.2.1⟩,c3:=⟨_,(bg.out wr a8).2.2.2⟩}
   have kv:Hid (Gj a l s=some d):=HR.out.ap.done;have co:=Ab HR.out.ok
   have bq:(C0 (AZ a (Ap l)) (AU a) d d.length).owner.length=d.length/\(C0 (AZ a (Ap l)) (AU a) d d.length).prio.length=d.length/\(C0 (AZ a (Ap l)) (AU a) d d.length).succ.length=d.length:=by simp[C0]
   rw[bq.1,bq.2.1,bq.2.2]at a4;clear HR a8 bq dr
   gi_upto_region 26 with(fail)
   refine Ju du (R26 w (.slice a0 d.length s0) (.slice a1 d.length s1) (.slice a2 d.length s2) (.slice b8 d.length aj)) (RB w (zb+2) (zn+2) (zn+1) (zb+2+1) (zb+4) zn (.slice a0 d.length s0) (.slice a1 d.length s1) (.slice a2 d.length s2) (.slice b8 d.length aj) vals (C0 (AZ a (Ap l)) (AU a) d d.length) d ds) (fun vs=>{tmps:=(_::_::_::_::_::_::_::_::_::_::_::_::_::_::_::_::_::_::_::_::_::_::_::_::_::_::_::_::_::_::_::_::_::_::_::_::_::_::_::_::_::_::_::_::_::_::_::_::_::_::_::_::_::_::_::_::_::_::_::_::_::_::_::_::_::_::_::_::_::_::_::_::_::_::_::_::_::_::_::_::_::_::_::_::_::_::_::_::_::_::_::_::_::_::_::_::_::_::_::_::_::_::_::_::_::_::_::_::_::_::_::_::_::_::_::_::_::_::_::_::_::_::_::vs 0::vs 1::[]).toArray,defers:=_}) (fun i=>[b5,b6].getD i undef) rfl (by kernel_rfl) {bo:=a4.bo.below (Below.drew Ad),mks:=a4.mks,bl:=a4.bl.trans (Below.drew Ad),c1:=a4.c1,c2:=a4.c2,c3:=a4.c3} ?step26 ?fin26
   case step26=>
    clear a4 eg;intro ix o ho
    match ix,ho with
    |0,ho=>
     obtain rfl:=osI ho;intro vs W K hB hD hK;have HK:=Ab hK;have d0:=Aa 0 hB.bo.g.box;have d1:=Aa 1 hB.bo.g.box;have d2:=Aa 2 hB.bo.g.box;have HB:=Ab hB;clear hK hD ho hB;dsimp only;go_simp;have h:=HK.out _ _ HB.out (fun _ _ _ h=>h) rfl;simp only[upd,Nat.reduceEqDiff,reduceIte]at h;exact h
    |1,ho=>
     obtain rfl:=osI ho;intro vs W K hB hD hK;have HK:=Ab hK;have d0:=Aa 0 hB.bo.bp;have HB:=Ab hB;clear hK hD ho hB;dsimp only;go_simp;have h:=HK.out _ _ HB.out (fun _ _ _ h=>h) rfl;simp only[upd,Nat.reduceEqDiff,reduceIte]at h;exact h
    |2,ho=>
     obtain rfl:=osI ho;intro vs W K hB hD hK;have HK:=Ab hK;have e0:vs 0=.agg #[.slice a0 d.length s0,.slice a1 d.length s1,.slice a2 d.length s2]:=Ac hD 0 rfl;obtain⟨x,y,z,hc⟩:=hB.c1;have d0:=Aa 0 hc;have d1:=Aa 1 hc;have d2:=Aa 2 hc;have f0:=At 0 hc;have f1:=At 1 hc;have f2:=At 2 hc;have HB:=Ab hB;clear hK hD ho hB hc;dsimp only;go_simp;obtain⟨q1,q2⟩:=HB.out.set1 (by omega) (by omega) (.slice a0 d.length s0) (.slice a1 d.length s1) (.slice a2 d.length s2);have h:=HK.out undef _ q1 (fun j x hj h=>h.set _ 2 hj (fun k hk=>by rw[AK _ _ _ _ _ hk,AK _ _ _ _ _ hk,AK _ _ _ _ _ hk])) q2;simp only[upd,Nat.reduceEqDiff,reduceIte,e0]at h;exact h
    |3,ho=>
     obtain rfl:=osI ho;intro vs W K hB hD hK;have HK:=Ab hK;have e1:vs 1=.slice b8 d.length aj:=Ac hD 1 rfl;obtain⟨x,hc⟩:=hB.c2;have d0:=Aa 0 hc;have f0:=At 0 hc;have HB:=Ab hB;clear hK hD ho hB hc;dsimp only;go_simp;obtain⟨q1,q2⟩:=HB.out.set2 (by omega) (by omega) (.slice b8 d.length aj);have h:=HK.out undef _ q1 (fun j x hj h=>h.set _ 3 hj (fun k hk=>by rw[AK _ _ _ _ _ hk])) q2;simp only[upd,Nat.reduceEqDiff,reduceIte,e1]at h;exact h
    |4,ho=>
     obtain rfl:=osI ho;intro vs W K hB hD hK;have HK:=Ab hK;obtain⟨x,hc⟩:=hB.c3;have d0:=Aa 0 hc;have f0:=At 0 hc;have HB:=Ab hB;clear hK hD ho hB hc;dsimp only;go_simp;obtain⟨q1,q2⟩:=HB.out.set3 (by omega) (by omega) (.int .i64 0);have h:=HK.out undef _ q1 (fun j x hj h=>h.set _ 4 hj (fun k hk=>by rw[AK _ _ _ _ _ hk])) q2;simp only[upd,Nat.reduceEqDiff,reduceIte]at h;exact h
    |q+5,ho=>exact absurd ho (by simp)
   case fin26=>
    intro vs W hB ab;have h2:W.heap[w.heap.size+1+1]? =some (.cells #[.slice a0 d.length s0,.slice a1 d.length s1,.slice a2 d.length s2] 65 (0,0)):=ab 2 (by decide);have h3:W.heap[w.heap.size+1+1+1]? =some (.cells #[.slice b8 d.length aj] 66 (0,0)):=ab 3 (by decide);have h4:W.heap[w.heap.size+1+1+1+1]? =some (.cells #[.int .i64 0] 39 (0,0)):=ab 4 (by decide);have HB:=Ab hB;clear ab hB a4;generalize vs 0=b5,vs 1=b6;clear vs
    gi_wp2_with fail
    refine E6 (n₁:=zn+2) _ _ HB.out.mks fun W' k4 k5=> ?_
    have s1:=k5 _ _ h2 rfl;have s2:=Aa 0 (k5 _ _ h3 rfl);have s3:=Aa 0 (k5 _ _ h4 rfl);have c5:=HB.out.bo.cells k4.size k5;have cb:Below w.heap.size w W':=HB.out.bl.trans (k4.mono (by omega));refine⟨_,Ge (by rfl) _ _ ⟨w.heap.size+1+1,0,none⟩ ⟨w.heap.size+1+1+1,0,none⟩ ⟨w.heap.size+1+1+1+1,0,none⟩ (.agg #[.slice a0 d.length _,.slice a1 d.length _,.slice a2 d.length _]) (.slice b8 d.length aj) (.int .i64 0) rfl rfl rfl (run_loadVar_row W' _ _ _ _ _ _ s1 Tryz.underlying65 (by rfl) (by rfl)) (by go_simp) (by go_simp), ?_⟩;show GG a l (Gj a l s) w _ _;rw[kv.out];exact⟨_,_,rfl,Sp cr.out bf.out (by omega) co.out c5.1,c5.2.is (by simp only[Bg];omega) (fun y hy=>wfP cr.out dh.out.2 (co.out y hy).1 (co.out y hy).2),cb⟩
  obtain⟨gp,rfl⟩:=HR.out.bo.p.some (by omega);obtain⟨y,hy⟩:∃y,y=d[k]:=⟨_,rfl⟩;have au:=HR.out.bo.p.at' rfl k hlt;rw[<-hy]at au;have HY:=Ab hy;clear hy
  have m4:(k:Int)<(d.length:Int):=by omega
  gi_upto_region 12 with(fail)
  have cy:Below wr.heap.size wr (wr.alloc (Obj.cells #[Value.slice none 0 0] 26)):=Ao _;have ik:(wr.alloc (Obj.cells #[Value.slice none 0 0] 26)).heap[wr.heap.size]? =some (Obj.cells #[Value.slice none 0 0] 26):=heap_alloc_new _ _
  have ly:(wr.alloc (Obj.cells #[Value.slice none 0 0] 26)).heap.size=wr.heap.size+1:=by simp
  generalize wr.alloc (Obj.cells #[Value.slice none 0 0] 26)=wS at*;have c7:=(HR.out.bl.block zb (by omega)).trans cc;have c8:=HR.out.bo.bp
  have HF:Hid (∀W,Below wS.drew.heap.size wS.drew W->(W.cell? ⟨zb,0,none⟩=some (.int .i64 a.letters)/\W.cell? ⟨zb,1,none⟩=some (.int .i64 a.start)/\W.cell? ⟨zb,2,none⟩=some (.slice ad n2 u)/\W.cell? ⟨zb,3,none⟩=some (.slice ae n2 v)/\W.cell? ⟨zb,4,none⟩=some (.int .i64 (AU a))/\W.cell? ⟨zb,5,none⟩=some (.slice am (Ap l).length af))/\W.cell? ⟨zb+2+1,0,none⟩=some (.slice (some ⟨gp,0,none⟩) d.length aj)/\
    (W.cell? ⟨gp,k*3,none⟩=some (.int .i64 y.st)/\W.cell? ⟨gp,k*3+1,none⟩=some (.int .i64 y.inn)/\W.cell? ⟨gp,k*3+2,none⟩=some (.int .i64 y.pr))):=fun W h=>by
   have h2:Below wr.heap.size wr W:=cy.trans (((Below.drew Ad).trans h).mono cy.size);have k1:=B8 h2 c7;have k2:=B8 h2 c8;exact⟨⟨Aa 0 k1,Aa 1 k1,Aa 2 k1,Aa 3 k1,Aa 4 k1,Aa 5 k1⟩,Aa 0 k2,Ag h2 au.1,Ag h2 au.2.1,Ag h2 au.2.2⟩
  clear au eg c7 c8;refine DV du (G12 a l ad ae am n2 u v af gp d.length aj k (wr.heap.size+1) y) (fun vs=>{tmps:=(_::_::_::_::_::_::_::_::_::_::_::_::_::_::_::_::_::_::_::_::_::_::_::_::_::_::_::_::_::_::_::_::_::_::_::_::_::_::_::_::_::_::_::_::_::_::_::_::_::_::_::_::_::_::_::_::_::_::_::_::_::_::_::_::vs 0::vs 1::vs 2::vs 3::vs 4::vs 5::_::_::_::_::_::_::_::_::_::_::_::_::_::_::_::_::_::_::_::_::_::_::_::_::_::_::_::_::_::_::_::_::_::_::_::_::_::_::_::_::_::_::_::_::_::_::_::_::_::_::_::_::_::_::_::[]).toArray,defers:=_}) (fun i=>[dw,dx,dy,dz,d6,jy].getD i undef) rfl (by kernel_rfl) G12.mono ?step ?fin
  case step=>
   intro ix o ho
   match ix,ho with
   |0,ho=>
     obtain rfl:=osI ho;intro vs W K hB hD hK;have HK:=Ab hK;obtain⟨d0,d1,d2,d3,d4,d5⟩:=(HF.out W hB).1;clear hK hD ho;dsimp only;go_simp;have h:=HK.out _ _ Ad rfl;simp only[upd,Nat.reduceEqDiff,reduceIte]at h;exact h
   |1,ho=>
     obtain rfl:=osI ho;intro vs W K hB hD hK;have HK:=Ab hK;have d0:=(HF.out W hB).2.1;clear hK hD ho;dsimp only;go_simp;have h:=HK.out _ _ Ad rfl;simp only[upd,Nat.reduceEqDiff,reduceIte]at h;exact h
   |2,ho|3,ho=>
     obtain rfl:=osI ho;intro vs W K hB hD hK;have HK:=Ab hK
     try have e1:vs 1=.slice (some ⟨gp,0,none⟩) d.length aj:=Ac hD 1 rfl
     try have e2:vs 2=.int .i64 (k:Int):=Ac hD 2 rfl
     clear hK hD ho;dsimp only;go_simp;have h:=HK.out _ _ Ad rfl;simp only[upd,Nat.reduceEqDiff,reduceIte, *]at h;exact h
   |4,ho=>
     obtain rfl:=osI ho;intro vs W K hB hD hK;have HK:=Ab hK;have e3:vs 3=.pointer (some ⟨gp,k*3,none⟩):=Ac hD 3 rfl;obtain⟨d0,d1,d2⟩:=(HF.out W hB).2.2;clear hK hD ho;dsimp only;go_simp;have h:=HK.out _ _ Ad rfl;simp only[upd,Nat.reduceEqDiff,reduceIte,e3]at h;exact h
   |5,ho=>
     obtain rfl:=osI ho;intro vs W K hB hD hK;have HK:=Ab hK;have e0:vs 0=.agg #[.int .i64 a.letters,.int .i64 a.start,.slice ad n2 u,.slice ae n2 v,.int .i64 (AU a),.slice am (Ap l).length af]:=Ac hD 0 rfl;have e4:vs 4=.agg #[.int .i64 y.st,.int .i64 y.inn,.int .i64 y.pr]:=Ac hD 4 rfl;clear hK hD ho;dsimp only;go_simp;refine⟨trivial, ?_⟩;refine(callsIn_wide.2 (TA W _ _ _ _ _ _ _ _ _ _ _ _ y)).mono ?_;rintro e W' ⟨rfl,cu⟩
     have lp:Below W.heap.size W W':=by rw[cu];exact AE (Ao _) _
     have hn:W'.heap[W.heap.size]? =some (.cells #[.int .i64 a.letters,.int .i64 a.start,.slice ad n2 u,.slice ae n2 v,.int .i64 (AU a),.slice am (Ap l).length af] 105 (0,0)):=by rw[cu];exact((Ao (w:=W.alloc _) _).block _ (by simp)).trans (heap_alloc_new _ _)
     have hp:W'.heap[W.heap.size+1]? =some (.cells (plC y) 108 (0,0)):=by
      have:=heap_alloc_new (W.alloc (.cells #[.int .i64 a.letters,.int .i64 a.start,.slice ad n2 u,.slice ae n2 v,.int .i64 (AU a),.slice am (Ap l).length af] 105)) (.cells (plC y) 108);rw[World.size_alloc]at this;rw[cu];exact this
     have h:=HK.out _ _ lp ⟨W.heap.size,rfl,(by have h9:wS.heap.size<=W.heap.size:=hB.size;omega),hn,hp⟩;simp only[upd,Nat.reduceEqDiff,reduceIte,e0,e4]at h;exact h
   |q+6,ho=>exact absurd ho (by simp)
  case fin=>
   intro vs w1 di ab;obtain⟨Bb,e5,m2,ih,f6⟩:=ab 5 (by decide);rw[e5];generalize vs 0=dw,vs 1=dx,vs 2=dy,vs 3=dz,vs 4=d6;clear vs ab e5
   gi_wp2_with fail
   have bb:Below wr.heap.size wr w1:=cy.trans (((Below.drew Ad).trans di).mono cy.size);have ek:=(show Below wS.heap.size wS w1 from(Below.drew Ad).trans di).block _ (by omega)|>.trans ik
   have na:wr.heap.size+1<=w1.heap.size:=by have h9:wS.heap.size<=w1.heap.size:=di.size;omega
   have mo:=(ltE f6);have hi:=HR.out.bo.open (by omega) bb (zS:=wr.heap.size) (Bp:=Bb+1) (Bb:=Bb) ⟨Nat.le_refl _,by omega⟩ ⟨by omega,by omega⟩ ⟨by omega,by omega⟩ (by omega) (by omega) (by omega) ek;have br:=HR.out.ok y (by rw[HY.out];exact List.getElem_mem hlt);have c4:Below (zb+2) w9 w1:=HR.out.bl.trans (bb.mono (by omega));have a3:BZ (zn+2) ds w1:=HR.out.mks.keeps ⟨bb.size,fun j o _ hj _=>(bb.block j (ltE hj)).trans hj⟩;obtain⟨S,hS⟩:∃S,S=AZ a (Ap l) y:=⟨_,rfl⟩
   have lc:Hid (∀x∈S,WfP x):=fun x hx=>by
    rw[hS]at hx;exact wfP cr.out dh.out.2 (bf.out.succ br.1 x hx) (Od cr.out br.1 x hx)
   have g8:Hid (S.length<=64):=by
    show _<=_;rw[hS];unfold AZ
    split
    ·simpa using dh.out.2
    ·rw[List.length_map];have:=br.1.inn;exact br.1.len y.inn.toNat (by omega)
   have HSEQ:=Ab (LN Fence.wide (5-1) trivial rfl (by omega) (Bb+1) Bb w9 a (Ap l) y S hS br.1 la.out dh.out.2 a.letters a.start (AU a) ad ae am u v af w1 (a7▸c4) f6 (fl.out▸ih) (fl.out▸ce) (fl.out▸cf) bk);have cq:=Ab hS;clear hS ih f6 cy ik ly di HF;generalize dr:C0 (AZ a (Ap l)) (AU a) d k=gm at*;have kz:=Ab dr;clear dr
   have KZ:Hid (∀X Y,KpN (zb+2) (Bb+1) Bb X Y->KpN w9.heap.size (Bb+1) Bb X Y):=fun X Y h=>by rw[a7];exact h
   refine wpIn_rangeFunc_ownH rfl (by omega) (gf:=112) (lb:=#[.pointer (some ⟨Bb+1,0,none⟩),.pointer (some ⟨Bb,0,none⟩)]) rfl trivial (enters_of Tryz.func112 (by kernel_rfl) rfl)
    HSEQ.out KpN.trans (KpN.put (by omega) (by omega) (by omega)) Ad (fun _=>rfl)
    (TU s (zb+2) (zn+2) (zn+1) (zb+2+1) (zb+4) zn wr.heap.size (Bb+1) Bb v0 v1 v2 vals gm d S ds w9)
    (IXV s (zn+2) w.heap.size d S ds w)
    (INV.own a3 (by omega) (by omega) (by omega)) (IXV.own a3 (by have:=lj.size;omega))
    ⟨_,_,{bi:=hi,le:=ie,bl:=c4,mks:=a3,n1:=by omega}⟩
    (fun x a' W=>∃zt,FrI vl w.heap.size zb zn wr.heap.size zt a'/\W.heap[zt]? =some (.cells (plC S[x]) 108 (0,0)))
    (fun x a' _ X Y row ⟨zt,hf,hz⟩ hg hr=>⟨zt,hf,OM hz hg hr⟩)
    ?assign ?body ?done ?stop
   case assign=>
    intro lY pre x W K hI hK;obtain⟨ks,vS',hI⟩:=hI;have m6:=(Array.getElem?_eq_some_iff.1 hI.bi.bs).1;unfold Lm plV
    gi_wp2
    have al:=Ao (w:=W) (.cells #[.int .i64 S[x].st,.int .i64 S[x].inn,.int .i64 S[x].pr] 108);obtain⟨k1,k2⟩:=Fe.of_below (n₁:=w1.heap.size) hI.bi al (by have:=hI.n1;omega);exact hK _ _ k2 (KZ.out _ _ k1) ⟨_,_,{bi:=hI.bi.below al,le:=hI.le,bl:=hI.bl.trans (al.mono (by have:=hI.n1;omega)),mks:=hI.mks.keeps ⟨al.size,fun j o _ hj _=>(al.block j (ltE hj)).trans hj⟩,n1:=Nat.le_trans hI.n1 al.size}⟩ ⟨W.heap.size,FrI.mk,heap_alloc_new _ _⟩
   case body=>
    rintro lY pre x a' W m5-⟨ks,vS',hI⟩ ⟨zt,hf,bd⟩ lw;refine FrI.elim (motive:=fun q=>Code.wpIn _ _ _ _ _ q W) hf ?_;clear hf a' u1 u2 u3 ip mb iq ir gc gd it iu iv iw iy iz i0 i1 i2 i3 i4 i5 i6 i7 i8 i9 ja jb jc jd je jf jg jh ji jj jl jm jn jo jp jq jr js jt ju jv jw jx dw dx dy dz d6 jz j0 j1 j2 j3 j4 j5 j6 j7 j8 j9 ka kb kc kd ke kf kg kh ki kj km kn ko kq kr d7 d8 d9 ea bx bz b0 b1 b4 em en eo ep eq er et eu ew ey ez fa fb fc fd fe ff fg b5 b6;intro u1 u2 u3 ip ni iq ir gc gd it iu iv iw iy iz i0 i1 i2 i3 i4 i5 i6 i7 i8 i9 ja jb jc jd je jf jg jh ji jj jl jm jn jo jp jq jr js jt ju jv mc md me mf jw jx dw dx dy dz d6 jy jz j0 j1 j2 j3 j4 j5 j6 j7 j8 j9 ka kb kc kd ke kf kg kh ki kj km kn ko kq kr d7 d8 d9 ea bx bz b0 b1 b4 em en eo ep eq er et eu ew ey ez fa fb fc fd fe ff fg b5 b6;obtain⟨yx,dv⟩:∃yx,yx=S[x]:=⟨_,rfl⟩;have f8:=lc.out S[x] (List.getElem_mem _);rw[<-dv]at f8 bd;have dt:=hI.bi.m.get f8
    have cb:zb+2<=W.heap.size:=by have:=hI.n1;omega
    have cv:=dp.trans ((show Below w9.heap.size w9 W from a7▸hI.bl).mono dp.size);have cm:W.cell? ⟨w.heap.size+1,0,none⟩=some (.int .i64 (s:Int)):=Aa 0 (bg.out W cv).1.2;have cn:W.cell? ⟨zn,0,none⟩=some (.map (some (zb+4))):=Aa 0 hI.bi.bn;have c0:W.cell? ⟨zt,0,none⟩=some (.int .i64 yx.st):=Aa 0 bd;have c1:W.cell? ⟨zt,1,none⟩=some (.int .i64 yx.inn):=Aa 1 bd;have c2:W.cell? ⟨zt,2,none⟩=some (.int .i64 yx.pr):=Aa 2 bd;obtain⟨aS,kS,rfl⟩:=hI.bi.o.slice;obtain⟨aP,kP,rfl⟩:=hI.bi.p.slice
    have im:zt≠zb+4:=by
     rintro rfl;obtain⟨es,c,h5⟩:=hI.bi.m.isMap;rw[bd]at h5;cases h5
    have il:=(ltE bd);have cp:W.cell? ⟨zb+2+1,0,none⟩=some (.slice aP (BL d (DE S pre)).length kP):=Aa 0 hI.bi.bp;have ld:=Ab bd;have db:=hI.bi.o;have bq:=Qo S pre
    have c9:(Dj (BL d (DE S pre)) (DE S pre)).length=pre.length:=by simp[Dj,bq]
    have fy:pre.length<64:=by have:=g8.out;exact Nat.lt_of_lt_of_le lw this
    rw[c9]at db
    have cs:W.cell? ⟨wr.heap.size,0,none⟩=some (.slice aS pre.length kS):=by rw[<-c9];exact Aa 0 hI.bi.bs
    have mn:(Dj (BL d (DE S pre)) (DE S pre)).length<64:=by rw[c9];exact fy
    have bm:=hI.bi;rw[c9]at bm;have fh:=Ab bm;have lr:=hI.le;have gn:=Ab hI.bl;have fk:=Ab hI.mks;have gz:=hI.n1;clear bm
    have gq:Hid (DE S (pre++[x])=DE S pre++[yx]):=by show _=_;rw[JL,dv]
    have ch:Hid (BL d (DE S (pre++[x]))=FX (BL d (DE S pre)) yx):=by show _=_;rw[JL,On,dv]
    have gy:=Ab (Lb d (DE S pre));clear hI bq c9 bd dv;generalize hL:BL d (DE S pre)=L at*;generalize hys:DE S pre=ys at*;clear hL hys
    by_cases hin:yx∈L
    ·have aw:=dt.1 hin;unfold plV at aw;have b7:=Ab hin;clear dt hin
     gi_upto_region 21 with(fail)
     gi_upto_region 99 with(gi_at_builtin;refine FI rfl _ _ (L.idxOf yx:Int) rfl (zb+2) _ _ db rfl _ rfl rfl (by omega) cb ?_;intro v' w' f hg ag;obtain⟨ax,ai,ah⟩:=f.slice;rw[List.length_append,List.length_singleton]at ah;subst ah;have aa:=Ab (fh.out.appS (n₁:=zn+2) f hg ag cb);have k2:=Aa 0 aa.out.1;have f2:=At 0 aa.out.1;clear f hg ag)
     have e1:FX L yx=L:=RI b7.out;have hb:=aa.out.2.1;rw[<-I8]at hb;obtain⟨-,-,q1,q2⟩:=aa.out;exact⟨Em q2 (by omega),KZ.out _ _ q1,_,_,{bi:=by rw[ch.out,gq.out,e1];exact hb,le:=by rw[ch.out,e1];exact lr,bl:=gn.out.trans q1.1,mks:=fk.out.keeps q2,n1:=Nat.le_trans gz q2.size}⟩
    ·obtain⟨c,aw⟩:=dt.2 hin;unfold plV at aw;have b7:=Ab hin;clear dt hin
     by_cases hmx2:L.length=s
     ·have ll:=Ab hmx2
      have m8:((L.length:Int)==(s:Int))=true:=by simp;omega
      clear hmx2;obtain⟨-,g1,g2,g3⟩:=bg.out W cv;have r0:W.cell? ⟨w.heap.size+1+1,0,none⟩=some (.slice none 0 0):=Aa 0 g1;have r1:W.cell? ⟨w.heap.size+1+1,1,none⟩=some (.slice none 0 0):=Aa 1 g1;have r2:W.cell? ⟨w.heap.size+1+1,2,none⟩=some (.slice none 0 0):=Aa 2 g1;have r3:W.cell? ⟨w.heap.size+1+1+1,0,none⟩=some (.slice none 0 0):=Aa 0 g2;have r4:W.cell? ⟨w.heap.size+1+1+1+1,0,none⟩=some (.int .i64 0):=Aa 0 g3;have f0:=At 0 g1;have f1:=At 1 g1;have f2:=At 2 g1;have f3:=At 0 g2;have f4:=At 0 g3
      gi_upto_region 99 with(fail)
      have lk:Below w.heap.size w W:=al.trans (cv.mono al.size);refine⟨?_,{ret:=rfl,gt:= ?_,r1:= ?_,r2:= ?_,r3:= ?_,bl:= ?_,mks:=Ni fk.out _ _ _ _ _}⟩
      ·exact(((((KeepsOthers.setCell W ⟨w.heap.size+1+1,0,none⟩ _).trans (KeepsOthers.setCell _ ⟨w.heap.size+1+1,1,none⟩ _)).trans (KeepsOthers.setCell _ ⟨w.heap.size+1+1,2,none⟩ _)).trans (KeepsOthers.setCell _ ⟨w.heap.size+1+1+1,0,none⟩ _)).trans (KeepsOthers.setCell _ ⟨w.heap.size+1+1+1+1,0,none⟩ _)).from _
      ·rw[ch.out,Lc b7.out,List.length_append,List.length_singleton,ll.out];omega
      ·exact(heap_setCell_other _ ⟨w.heap.size+1+1+1+1,0,none⟩ _ _ (by simp<;>omega)).trans ((heap_setCell_other _ ⟨w.heap.size+1+1+1,0,none⟩ _ _ (by simp<;>omega)).trans (FU g1))
      ·refine(heap_setCell_other _ ⟨w.heap.size+1+1+1+1,0,none⟩ _ _ (by simp<;>omega)).trans (heap_setCell_same _ (w.heap.size+1+1+1) 0 #[.slice none 0 0] _ _ ?_);exact(heap_setCell_other _ ⟨w.heap.size+1+1,2,none⟩ _ _ (by simp<;>omega)).trans ((heap_setCell_other _ ⟨w.heap.size+1+1,1,none⟩ _ _ (by simp<;>omega)).trans ((heap_setCell_other _ ⟨w.heap.size+1+1,0,none⟩ _ _ (by simp<;>omega)).trans g2))
      ·refine heap_setCell_same _ (w.heap.size+1+1+1+1) 0 #[.int .i64 0] _ _ ?_;exact(heap_setCell_other _ ⟨w.heap.size+1+1+1,0,none⟩ _ _ (by simp<;>omega)).trans ((heap_setCell_other _ ⟨w.heap.size+1+1,2,none⟩ _ _ (by simp<;>omega)).trans ((heap_setCell_other _ ⟨w.heap.size+1+1,1,none⟩ _ _ (by simp<;>omega)).trans ((heap_setCell_other _ ⟨w.heap.size+1+1,0,none⟩ _ _ (by simp<;>omega)).trans g3)))
      ·exact((((lk.setCell (p:=⟨w.heap.size+1+1,0,none⟩) (by simp;omega) _).setCell (p:=⟨w.heap.size+1+1,1,none⟩) (by simp;omega) _).setCell (p:=⟨w.heap.size+1+1,2,none⟩) (by simp;omega) _).setCell (p:=⟨w.heap.size+1+1+1,0,none⟩) (by simp;omega) _).setCell (p:=⟨w.heap.size+1+1+1+1,0,none⟩) (by simp;omega) _
     ·have m9:((L.length:Int)==(s:Int))=false:=by simp;omega
      have mm:L.length<s:=by omega
      clear hmx2;obtain⟨w2,dc,h7,c6⟩:=fh.out.m.upd f8 b7.out (by omega);unfold plV at dc;have be:=Ab (fh.out.put (n₁:=zn+2) c6 h7 cb (by omega));have cz:zb+2<=w2.heap.size:=Nat.le_trans cb c6.size;have bw:=(c6.block zt il (fun e=>im (by cases e;rfl))).trans ld.out;have d0:w2.cell? ⟨zt,0,none⟩=some (.int .i64 yx.st):=Aa 0 bw;have d1:w2.cell? ⟨zt,1,none⟩=some (.int .i64 yx.inn):=Aa 1 bw;have d2:w2.cell? ⟨zt,2,none⟩=some (.int .i64 yx.pr):=Aa 2 bw;have d3:w2.cell? ⟨zb+2+1,0,none⟩=some (.slice aP L.length kP):=Aa 0 be.out.1.bp;have ib:=be.out.1.p;clear c6 h7 bw
      gi_upto_region 21 with(gi_at_builtin;refine Lf rfl _ _ yx rfl (zb+2) _ _ ib rfl _ rfl rfl (by omega) cz ?_;intro v' w' f hg ag;obtain⟨ax,ai,ah⟩:=f.slice;rw[List.length_append,List.length_singleton]at ah;subst ah;have dg:=Ab (be.out.1.appP (n₁:=zn+2) f hg ag cz);have k2:=Aa 0 dg.out.1;have f2:=At 0 dg.out.1;clear f hg ag)
      obtain⟨-,cj,fi⟩:=dg.out;replace cj:=Ab cj;clear k2 f2 d0 d1 d2 d3 cm cn c0 c1 c2 cs cp dc db ib dg;have ee:zb+2<=(w'.setCell ⟨zb+2+1,0,none⟩ (.slice ax (L.length+1) ai)).heap.size:=Nat.le_trans cz fi.2.size;have gr:=Ab fi;clear fi;generalize w'.setCell ⟨zb+2+1,0,none⟩ (.slice ax (L.length+1) ai)=w4 at*;have cs:w4.cell? ⟨wr.heap.size,0,none⟩=some (.slice aS pre.length kS):=Aa 0 cj.out.bs;have db:=cj.out.o
      gi_upto_region 99 with(gi_at_builtin;refine FI rfl _ _ (L.length:Int) rfl (zb+2) _ _ db rfl _ rfl rfl (by omega) ee ?_;intro v' w' f hg ag;obtain⟨ax,ai,ah⟩:=f.slice;rw[List.length_append,List.length_singleton]at ah;subst ah;have aa:=Ab (cj.out.appS (n₁:=zn+2) f hg ag ee);have k2:=Aa 0 aa.out.1;have f2:=At 0 aa.out.1;clear f hg ag)
      have e1:FX L yx=L++[yx]:=Lc b7.out;have hb:=aa.out.2.1
      have e2:Dj (L++[yx]) (ys++[yx])=Dj L ys++[(L.length:Int)]:=by rw[I8,JW gy.out,NK b7.out]
      rw[<-e2]at hb;have q3:=be.out.2.trans (gr.out.trans aa.out.2.2);exact⟨Em q3.2 (by omega),KZ.out _ _ q3.1,_,_,{bi:=by rw[ch.out,gq.out,e1];exact hb,le:=by rw[ch.out,e1,List.length_append,List.length_singleton];omega,bl:=gn.out.trans q3.1.1,mks:=fk.out.keeps q3.2,n1:=Nat.le_trans gz q3.2.size}⟩
   case done=>
    rintro D ys W hD rfl ⟨ks,vS',hI⟩ dk;have bm:=hI.bi;have ei:=hI.le;have bv:=hI.bl;have ej:=BZ.cons a3 hI.mks (by omega) hD dk;have cd:=hI.n1;rw[Qn]at bm ei;have bj:=bm.close;clear hI bm dk
    have h6:k<(BL d S).length:=by
     obtain⟨e,he⟩:=EL d S;rw[he,List.length_append];omega
    have f7:(BL d S)[k]=y:=by
     obtain⟨e,he⟩:=EL d S;have h3:(d++e)[k]'(by simp;omega)=d[k]:=List.getElem_append_left hlt;rw[HY.out,<-h3];simp only[he]
    have lu:(Dj (BL d S) S).length<=64:=by simp[Dj];exact g8.out
    obtain⟨aS,kS,rfl⟩:=bj.o.slice;obtain⟨aP,kP,rfl⟩:=bj.p.slice;obtain⟨bh,rfl⟩:=bj.p.some (by omega);have au:=bj.p.at' rfl k h6;rw[f7]at au;have c7:=(bv.block zb (by omega)).trans cc;have c8:=bj.bp
    have kt:Hid (AtP (AZ a (Ap l)) s ⟨a.start,-1,AU a⟩ (k+1) (BL d S)):=by
     have:=HR.out.ap.next hlt (by rw[<-HY.out,<-cq.out];exact ei);rw[<-HY.out,<-cq.out]at this;exact this
    have ec:Hid (C0 (AZ a (Ap l)) (AU a) (BL d S) k=gm):=by
     obtain⟨e,he⟩:=EL d S;show _=_;rw[he,OO lq HR.out.ap.cl];exact kz.out
    have g6:Hid (C0 (AZ a (Ap l)) (AU a) (BL d S) (k+1)=⟨gm.owner++[Ex y],gm.prio++[Ey (AU a) y],gm.succ++[Dj (BL d S) S]⟩):=by
     show _=_;rw[OR h6,ec.out,f7,<-cq.out]
    have g4:Hid (∀z∈BL d S,Ij a (Ap l) z/\PlW z):=by
     refine PM (fun z hz=>HR.out.ok z hz) fun z hz=> ?_
     rw[cq.out]at hz;exact⟨bf.out.succ br.1 z hz,Od cr.out br.1 z hz⟩
    have eh:gm.owner.length=k/\gm.prio.length=k/\gm.succ.length=k:=by
     rw[<-ec.out];simp only[C0,List.length_map,List.length_take];omega
    have mg:=Ab eh
    have mh:gm.owner.length<=3000:=by omega
    have mi:gm.prio.length<=3000:=by omega
    have mj:gm.succ.length<=3000:=by omega
    clear eh f7;have gv:=Ab ej;clear ej a3 hi c4 bb ek;generalize hLL:BL d S=L at*;clear hLL;generalize Dj L S=io at*
    have ml:(k:Int)<(L.length:Int):=by omega
    gi_upto_region 22 with(fail)
    have HF:Hid (∀W',Below W.drew.heap.size W.drew W'->(W'.cell? ⟨zb,0,none⟩=some (.int .i64 a.letters)/\W'.cell? ⟨zb,1,none⟩=some (.int .i64 a.start)/\W'.cell? ⟨zb,2,none⟩=some (.slice ad n2 u)/\W'.cell? ⟨zb,3,none⟩=some (.slice ae n2 v)/\W'.cell? ⟨zb,4,none⟩=some (.int .i64 (AU a))/\W'.cell? ⟨zb,5,none⟩=some (.slice am (Ap l).length af))/\W'.cell? ⟨zb+2+1,0,none⟩=some (.slice (some ⟨bh,0,none⟩) L.length kP)/\
      (W'.cell? ⟨bh,k*3,none⟩=some (.int .i64 y.st)/\W'.cell? ⟨bh,k*3+1,none⟩=some (.int .i64 y.inn)/\W'.cell? ⟨bh,k*3+2,none⟩=some (.int .i64 y.pr))/\FG W' (.agg #[.int .i64 a.letters,.int .i64 a.start,.slice ad n2 u,.slice ae n2 v,.int .i64 (AU a),.slice am (Ap l).length af]) a l):=fun W' h=>by
     have h2:Below W.heap.size W W':=(Below.drew Ad).trans h;have k1:=B8 h2 c7;have k2:=B8 h2 c8;have h3:Below w9.heap.size w9 W':=(show Below w9.heap.size w9 W from a7▸bv).trans (h2.mono (by omega));exact⟨⟨Aa 0 k1,Aa 1 k1,Aa 2 k1,Aa 3 k1,Aa 4 k1,Aa 5 k1⟩,Aa 0 k2,⟨Ag h2 au.1,Ag h2 au.2.1,Ag h2 au.2.2⟩,_,_,_,rfl,ce.below h3,cf.below h3,bk.below h3⟩
    clear au c7 c8;refine DV du (G22 a l ad ae am n2 u v af bh L.length kP k y) (fun vs=>{tmps:=(_::_::_::_::_::_::_::_::_::_::_::_::_::_::_::_::_::_::_::vs 9::vs 10::_::_::_::_::_::_::_::_::_::_::_::_::_::_::_::_::_::_::_::_::_::_::_::_::_::_::_::_::_::_::_::_::_::_::_::_::_::_::_::_::_::_::_::_::_::_::_::_::_::_::_::_::_::_::_::_::_::_::_::_::_::_::_::_::_::_::_::_::_::_::_::_::_::_::_::vs 6::vs 0::vs 1::vs 2::vs 3::vs 4::vs 5::vs 7::vs 8::_::_::_::_::_::_::_::_::_::_::_::_::_::_::_::_::_::_::_::_::[]).toArray,defers:=_}) (fun i=>[d8,d9,ea,bx,bz,b0,d7,b1,b4,gc,gd].getD i undef) rfl (by kernel_rfl) (fun _ _ _ _ h _=>h) ?step2 ?fin2
    case step2=>
     intro ix o ho
     match ix,ho with
     |0,ho=>
       obtain rfl:=osI ho;intro vs W K hB hD hK;have HK:=Ab hK;obtain⟨d0,d1,d2,d3,d4,d5⟩:=(HF.out W hB).1;clear hK hD ho;dsimp only;go_simp;have h:=HK.out _ _ Ad rfl;simp only[upd,Nat.reduceEqDiff,reduceIte]at h;exact h
     |1,ho=>
       obtain rfl:=osI ho;intro vs W K hB hD hK;have HK:=Ab hK;have d0:=(HF.out W hB).2.1;clear hK hD ho;dsimp only;go_simp;have h:=HK.out _ _ Ad rfl;simp only[upd,Nat.reduceEqDiff,reduceIte]at h;exact h
     |2,ho|3,ho|6,ho|7,ho|8,ho|9,ho|10,ho=>
       obtain rfl:=osI ho;intro vs W K hB hD hK;have HK:=Ab hK
       try have e1:vs 1=.slice (some ⟨bh,0,none⟩) L.length kP:=Ac hD 1 rfl
       try have e2:vs 2=.int .i64 (k:Int):=Ac hD 2 rfl
       try have e5:vs 5=.tuple #[.int .i64 (Ex y),.int .i64 (Ey (AU a) y)]:=Ac hD 5 rfl
       try have e6:vs 6=.tuple #[.int .i64 (Ex y),.int .i64 (Ey (AU a) y)]:=Ac hD 6 rfl
       try have e7:vs 7=.int .i64 (Ex y):=Ac hD 7 rfl
       try have e8:vs 8=.int .i64 (Ey (AU a) y):=Ac hD 8 rfl
       clear hK hD ho;dsimp only;go_simp;have h:=HK.out _ _ Ad rfl;simp only[upd,Nat.reduceEqDiff,reduceIte, *]at h;exact h
     |4,ho=>
       obtain rfl:=osI ho;intro vs W K hB hD hK;have HK:=Ab hK;have e3:vs 3=.pointer (some ⟨bh,k*3,none⟩):=Ac hD 3 rfl;obtain⟨d0,d1,d2⟩:=(HF.out W hB).2.2.1;clear hK hD ho;dsimp only;go_simp;have h:=HK.out _ _ Ad rfl;simp only[upd,Nat.reduceEqDiff,reduceIte,e3]at h;exact h
     |5,ho=>
       obtain rfl:=osI ho;intro vs W K hB hD hK;have HK:=Ab hK;have e0:vs 0=.agg #[.int .i64 a.letters,.int .i64 a.start,.slice ad n2 u,.slice ae n2 v,.int .i64 (AU a),.slice am (Ap l).length af]:=Ac hD 0 rfl;have e4:vs 4=.agg #[.int .i64 y.st,.int .i64 y.inn,.int .i64 y.pr]:=Ac hD 4 rfl;clear hK hD ho;dsimp only;go_simp;refine⟨trivial, ?_⟩;refine(callsIn_wide.2 (M4 W _ a l y (HF.out W hB).2.2.2)).mono ?_;rintro e W' ⟨rfl,cu⟩;have h:=HK.out _ _ cu rfl;simp only[upd,Nat.reduceEqDiff,reduceIte,e0,e4]at h;exact h
     |q+11,ho=>exact absurd ho (by simp)
    case fin2=>
     intro vs w2 hh ab;have e9:vs 9=.int .i64 (Ex y):=ab 9 (by decide);have fq:vs 10=.int .i64 (Ey (AU a) y):=ab 10 (by decide);rw[e9,fq];generalize vs 0=d8,vs 1=d9,vs 2=ea,vs 3=bx,vs 4=bz,vs 5=b0,vs 6=d7,vs 7=b1,vs 8=b4;clear vs ab e9 fq;have az:Below W.heap.size W w2:=(Below.drew Ad).trans hh;have aq:=bj.below az;have ef:Below (zb+2) w9 w2:=bv.trans (az.mono (by omega));have ia:zn+2<=w2.heap.size:=Nat.le_trans cd az.size;have gw:=Ab (gv.out.keeps (w':=w2) ⟨az.size,fun j o _ hj _=>(az.block j (ltE hj)).trans hj⟩);clear bj bv hh az gv cd HF;obtain⟨a0,s0,rfl⟩:=aq.g.o.slice;obtain⟨a1,s1,rfl⟩:=aq.g.p.slice;obtain⟨a2,s2,rfl⟩:=AG aq.g.r;have g0:w2.cell? ⟨zn+1,0,none⟩=some (.slice a0 gm.owner.length s0):=Aa 0 aq.g.box;have bc:=aq.g.o;have be:=Ab aq;have go:=Ab ef;clear aq ef
     have cw:zb+2<=w2.heap.size:=by omega
     gi_upto_region 23 with(fail)
     gi_upto_region 24 with(gi_at_builtin;refine FI rfl _ _ (Ex y) rfl (zb+2) _ _ bc rfl _ rfl rfl (by omega) cw ?_;intro v' w' f hg ag;obtain⟨ax,ai,ah⟩:=f.slice;rw[List.length_append,List.length_singleton]at ah;subst ah;have aa:=Ab (be.out.stepO f hg ag cw);have k2:=Aa 0 aa.out.1;have f2:=At 0 aa.out.1;clear f hg ag)
     obtain⟨-,dj,ft,hs⟩:=aa.out;have kw:=Ab hs;clear aa k2 f2 g0 bc be;generalize w'.setCell ⟨zn+1,0,none⟩ (.slice ax (gm.owner.length+1) ai)=gi at*;have g0:gi.cell? ⟨zn+1,1,none⟩=some (.slice a1 gm.prio.length s1):=Aa 1 dj.g.box;have bc:OI gi (zb+2) (.slice a1 gm.prio.length s1) gm.prio:=dj.g.p;have gj:=Ab dj;have gs:=Ab ft;have cx:zb+2<=gi.heap.size:=Nat.le_trans cw ft.size;clear dj ft hs w'
     gi_upto_region 25 with(gi_at_builtin;refine FI rfl _ _ (Ey (AU a) y) rfl (zb+2) _ _ bc rfl _ rfl rfl (by omega) cx ?_;intro v' w' f hg ag;obtain⟨ax,ai,ah⟩:=f.slice;rw[List.length_append,List.length_singleton]at ah;subst ah;have aa:=Ab (gj.out.stepP f hg ag cx);have k2:=Aa 1 aa.out.1;have f2:=At 1 aa.out.1;clear f hg ag)
     obtain⟨-,an,fu,ht⟩:=aa.out;have kx:=Ab ht;clear aa k2 f2 g0 bc gj;generalize w'.setCell ⟨zn+1,1,none⟩ (.slice ax (gm.prio.length+1) ai)=eb at*;have g0:eb.cell? ⟨zn+1,2,none⟩=some (.slice a2 gm.succ.length s2):=Aa 2 an.g.box;have bc:eb.ownsRow (zb+2) 26 1 (.slice a2 gm.succ.length s2) gm.succ.length vals:=an.g.r;have gl:=Ab an;have gu:=Ab fu;have ed:zb+2<=eb.heap.size:=Nat.le_trans cx fu.size;have g1:eb.cell? ⟨wr.heap.size,0,none⟩=some (.slice aS io.length kS):=Aa 0 an.bs;clear an fu ht w'
     gi_upto_region 10 with(gi_at_builtin;refine Oq rfl _ _ _ rfl (zb+2) _ _ _ bc rfl _ rfl rfl rfl (by omega) ed ?_;intro v' w' f hg ag;obtain⟨ax,ai,ah⟩:=AG f;subst ah;have aa:=Ab (gl.out.stepR f hg ag ed);have k2:=Aa 2 aa.out.1;have f2:=At 2 aa.out.1;clear f hg ag)
     obtain⟨-,b9,fv,hu⟩:=aa.out;have ky:=Ab hu;clear aa k2 f2 g0 g1 bc gl;have ku:=Ab b9;have k6:=Ab fv;have mp:=fv.size;clear b9 fv hu;generalize w'.setCell ⟨zn+1,2,none⟩ (.slice ax (gm.succ.length+1) ai)=nn at*
     gi_wp2_with fail
     refine k3.out _ _ _ ?_ (k0.out (s-(k+1)) _ _ ⟨k+1,L,_,_,_,_,_,_,{gh:=rfl,ap:=kt.out,bo:=by rw[g6.out];exact ku.out,bl:=go.out.trans (gs.out.trans (gu.out.trans k6.out)),ok:=g4.out,mks:=((gw.out.keeps (Em kw.out (by omega))).keeps (Em kx.out (by omega))).keeps (Em ky.out (by omega)),n1:= ?_},FrB.mk' (by simp)⟩)
     ·rw[HR.out.gh];omega
     ·have q5:=gs.out.size;have q6:=gu.out.size;omega
   case stop=>
    rintro D c pre W hD ⟨j,hj,rfl⟩ hx dk;obtain rfl:=hx.ret
    have da:Gj a l s=none:=by
     unfold Gj;have hg:=hx.gt;rw[JM]at hg;have c6:=Kt d S j;refine HR.out.ap.fail hlt ?_;rw[<-HY.out,<-cq.out];omega
    have k8:=Ab da;clear da
    gi_wp2
    refine E6 (n₁:=zn+2) _ _ (BZ.cons a3 hx.mks (by omega) hD dk) fun W' h4 h5=> ?_
    have s1:=h5 _ _ hx.r1 rfl;have s2:=Aa 0 (h5 _ _ hx.r2 rfl);have s3:=Aa 0 (h5 _ _ hx.r3 rfl);refine⟨_,Ge (by rfl) _ _ ⟨w.heap.size+1+1,0,none⟩ ⟨w.heap.size+1+1+1,0,none⟩ ⟨w.heap.size+1+1+1+1,0,none⟩ (.agg #[.slice none 0 0,.slice none 0 0,.slice none 0 0]) (.slice none 0 0) (.int .i64 2) rfl rfl rfl (run_loadVar_row W' _ _ _ _ _ _ s1 Tryz.underlying65 (by rfl) (by rfl)) (by go_simp) (by go_simp), ?_⟩;show GG a l (Gj a l s) w _ _;rw[k8.out];exact⟨rfl,hx.bl.trans (h4.mono (by omega))⟩
end Go.Proofs.YtncjeamdkjcebaaGreatDoor
