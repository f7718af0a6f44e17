/- What Attract computes. -/
import Derived.Test.YtjhafakkadnfmaaP15
import Derived.Test.YtjhafakkadnfmaaC12
namespace Go.Proofs.Ytjhafakkadnfmaa
open Go.RowKit

theorem one_c (w : World) (v : Value) (x : Int) : Calls Try.prog 37 #[v, .int .i64 x] w fun e w' => e = .returned (.bool true) ∧ w' = w := by
  go_enter Try.func37, Try.ntmps37
  go_wp2
  go_ret
  exact ⟨rfl, rfl⟩

theorem every_c (w : World) (ga gl n cap v : Nat) (x : Int) (hv : v < n) (e2 : w.cell? ⟨ga, 2, none⟩ = some (.slice (some ⟨gl, 0, none⟩) n cap)) (cl : w.cell? ⟨gl, v, none⟩ = some (.int .i64 x)) :
    Calls Try.prog 38 #[.pointer (some ⟨ga, 0, none⟩), .int .i64 v] w fun e w' => e = .returned (.bool (x == 0)) ∧ w' = w := by
  go_enter Try.func38, Try.ntmps38
  go_wp2
  go_ret
  exact ⟨rfl, rfl⟩

theorem has2_c (w : World) (gi n cap v : Nat) (b : Bool) (hv : v < n) (c : w.cell? ⟨gi, v, none⟩ = some (.bool b)) :
    Calls Try.prog 39 #[.slice (some ⟨gi, 0, none⟩) n cap, .int .i64 v] w fun e w' => e = .returned (.bool b) ∧ w' = w := by
  go_enter Try.func39, Try.ntmps39
  go_wp2
  go_ret
  exact ⟨rfl, rfl⟩

/-- Behind begin: the state of the search. -/
structure Srch (w wr : World) (cs : Array Value) (B n ga gi gm gl ob z : Nat) (vq : Value) (vals : List Value) (st : Att) (bf : List (List Int)) : Prop where
  bx : Boxed w wr cs
  Bb : w.heap.size + 1 ≤ B
  bo : Both wr B n ga gi gm gl ob vq vals st.inn st.mv st.lf st.q bf
  fn : wr.heap[z]? = some (Obj.cells #[Value.func (.func 37) #[] #[], Value.func (.func 38) #[] #[]] 65)
  fz : ¬ GrowAt ga gi gm gl vq z
  zb : w.heap.size + 1 ≤ z

theorem Srch.step {w wr w1 : World} {cs : Array Value} {B n ga gi gm gl ob z : Nat} {vq vq' : Value} {vals : List Value} {st st' : Att} {bf : List (List Int)} (h : Srch w wr cs B n ga gi gm gl ob z vq vals st bf)
    (ho : Only (GrowAt ga gi gm gl vq) wr w1) (hG : Grow w1 B n ga gi gm gl vq' st'.inn st'.mv st'.lf st'.q) (hm : Moved wr vq vq') : Srch w w1 cs B n ga gi gm gl ob z vq' vals st' bf where
  bx := h.bx.only ho (fun k hk => Nat.le_trans h.Bb (h.bo.G.atB hk))
  Bb := h.Bb
  bo := h.bo.growth ho hG hm
  fn := by
    have hz : z < wr.heap.size := (Array.getElem?_eq_some_iff.1 h.fn).1
    rw [ho.block z hz h.fz]; exact h.fn
  fz := GrowAt.moved hm (Array.getElem?_eq_some_iff.1 h.fn).1 h.fz
  zb := h.zb

theorem bxor_eq {a b : Int} (ha : 0 ≤ a ∧ a ≤ 1) (hb : b = 0 ∨ b = 1) : (a = b → bits BinOp.xor IntKind.i64 a b = 0) ∧ (a ≠ b → bits BinOp.xor IntKind.i64 a b = 1) := by
  have : a = 0 ∨ a = 1 := by omega
  rcases this with rfl | rfl <;> rcases hb with rfl | rfl <;> simp [bx00, bx01, bx10, bx11]

set_option maxRecDepth 100000 in
set_option maxHeartbeats 8000000 in
theorem Attract_c (w : World) (vg vs : Value) (g : Gm) (p : Int) (s : List Bool) (hg : IsGame w vg g) (hs : IsBools w vs s) (hS : ∀ i, (g.succ.getD i []).length ≤ 1000) :
    Calls Try.prog 23 #[vg, .int .i64 p, vs] w (TwoOr (fitsB g p s.length) (attQ g p s).inn (attQ g p s).mv w) := by
  have hgx := hg
  have hsx := hs
  obtain ⟨v0, v1, v2, rfl, ⟨⟨ao0, cap0, b0, off0, rfl, g0⟩, _⟩, ⟨⟨ao1, cap1, b1, off1, rfl, g1⟩, _⟩, ⟨V, ⟨ao2, cap2, b2, off2, rfl, g2⟩, hr⟩⟩ := hg
  obtain ⟨aos, caps, bs, offs, rfl, hs⟩ := hs
  have hns := hs.nb
  clear hs g1 g2 hr
  cases hf : fitsB g p s.length
  · go_enter Try.func23, Try.ntmps23
    go_wp2_with fail
    refine (fits_c _ _ g p _ _ _ (hgx.below (by repeat (first | exact Below.refl _ _ | assumption | (refine belA ?_ _) | (refine belD ?_ _))))).mono ?_
    rintro e w1 ⟨rfl, hb1⟩
    rw [hf]
    go_wp2
    go_ret2
    exact ⟨_, _, rfl, OB_nil _ _, OI_nil _ _, (Boxed.start hb1).bl⟩
  have F := fits_of hf
  have hle := F.le
  have HON : Hid (g.owner.length = s.length) := F.on
  go_enter Try.func23, Try.ntmps23
  go_wp2_with fail
  refine (fits_c _ _ g p _ _ _ (hgx.below (by repeat (first | exact Below.refl _ _ | assumption | (refine belA ?_ _) | (refine belD ?_ _))))).mono ?_
  rintro e w1 ⟨rfl, hb1⟩
  have hbx := Boxed.start hb1
  clear hb1
  rw [hf]
  have d0 : w1.cell? ⟨w.heap.size, 0, none⟩ = some (Value.slice ao0 g.owner.length cap0) := hbx.cell 0 rfl
  have d1 : w1.cell? ⟨w.heap.size, 1, none⟩ = some (Value.slice ao1 g.prio.length cap1) := hbx.cell 1 rfl
  have d2 : w1.cell? ⟨w.heap.size, 2, none⟩ = some (Value.slice ao2 g.succ.length cap2) := hbx.cell 2 rfl
  go_wp2_with fail
  refine (begin_c _ _ _ g p s (hgx.below hbx.bl) (hsx.below hbx.bl) F hS).mono ?_
  rintro e w2 ⟨ga, gi, gm, gl, ob, vq, vals, rfl, hbo, hbl⟩
  have hb1 : w.heap.size + 1 ≤ w1.heap.size + 1 := by have := hbx.lt; omega
  have hbx2 := hbx.step hbl
  have hwz : w1.heap.size + 1 ≤ w2.heap.size := by have := hbo.G.lt; have := hbo.G.d; omega
  generalize hst : (⟨(begSt g s s.length s.length).inn, (begSt g s s.length s.length).mv, (begSt g s s.length s.length).lf, (begSt g s s.length s.length).q⟩ : Att) = st0
  have hbo' : Both w2 (w1.heap.size + 1) s.length ga gi gm gl ob vq vals st0.inn st0.mv st0.lf st0.q (begSt g s s.length s.length).bf := by rw [← hst]; exact hbo
  have hok0 := begSt_ok g s s.length hS s.length (Nat.le_refl _)
  have hrow0 := begSt_row g s s.length hS s.length
  have hfin : Hid (attQ g p s = attIter g p (begSt g s s.length s.length).bf st0 s.length) := by show _ = _; rw [attQ, hst]
  rw [hst] at hok0
  clear hst hbo
  generalize (begSt g s s.length s.length).bf = bf at *
  have HBF : Hid (∀ j, (bf.getD j []).length ≤ 3000000 ∧ ∀ v ∈ bf.getD j [], 0 ≤ v ∧ v < s.length) := fun j => ⟨by have := hrow0 j; omega, hok0.2.2 j⟩
  have HOK : Hid (∀ k, AttOK s.length (1000 + k * 3000000) (attIter g p bf st0 k)) := fun k => attIter_ok hok0.1 HBF.out k
  clear hok0 hrow0
  have hsr : Srch w (w2.alloc (Obj.cells #[Value.func (.func 37) #[] #[], Value.func (.func 38) #[] #[]] 65)) #[Value.slice ao0 g.owner.length cap0, Value.slice ao1 g.prio.length cap1, Value.slice ao2 g.succ.length cap2] (w1.heap.size + 1) s.length ga gi gm gl ob w2.heap.size vq vals st0 bf := by
    have hL := hbo'.G.lt
    refine ⟨hbx2.step (bel_box _), hb1, hbo'.growth (Only.of_below (bel_box _)) (hbo'.G.only (S := fun _ => False) (Only.of_below (bel_box _)) (fun _ h => h.elim)) (Moved.refl _ _), heap_alloc_new _ _, ?_, by omega⟩
    rintro (x | x | x | x | x)
    · omega
    · omega
    · omega
    · omega
    · have := hbo'.G.q.lt' _ x; omega
  clear hbo' hbx2 hbx hbl d0 d1 d2
  go_wp2
  generalize w2.heap.size = z at *
  generalize w1.heap.size + 1 = B at *
  clear hb1 hwz
  go_loopg [11] s.length (fun gh i wr => ∃ (k : Nat) (vq : Value), gh = s.length - k ∧ i = .int .i64 k ∧ k ≤ s.length ∧ Srch w wr #[Value.slice ao0 g.owner.length cap0, Value.slice ao1 g.prio.length cap1, Value.slice ao2 g.succ.length cap2] B s.length ga gi gm gl ob z vq vals (attIter g p bf st0 k) bf)
  case atStart => exact ⟨0, vq, rfl, rfl, by omega, hsr⟩
  case round =>
    obtain ⟨k, vq, hgk, rfl, hk, hS1⟩ := hrel
    have HG := Lib.hid hgk
    clear hgk hsr
    have hok := HOK.out k
    have hql := hok.qn
    have hqr := hok.qr
    obtain ⟨aoq, capq, hvq⟩ := hS1.bo.G.q.slice
    subst hvq
    have e3 : wr.cell? ⟨ga, 3, none⟩ = some (.slice aoq (attIter g p bf st0 k).q.length capq) := hS1.bo.G.cell 3 rfl
    by_cases hlt : k < (attIter g p bf st0 k).q.length
    · have hkn : k < s.length := by omega
      have HIT : Hid (attIter g p bf st0 (k + 1) = attAll g p ((attIter g p bf st0 k).q.getD k 0) (attIter g p bf st0 k) (bf.getD ((attIter g p bf st0 k).q.getD k 0).toNat [])) := by
        show _ = _
        rw [attIter, attRound, if_pos hlt]
      have HOKk := Lib.hid hok
      generalize attIter g p bf st0 k = st at *
      obtain ⟨gq, cq, hv, -, -⟩ := hS1.bo.G.q.row (by omega)
      simp only [Value.slice.injEq] at hv
      obtain ⟨rfl, -, rfl⟩ := hv
      have hur := hqr st.q[k] (List.getElem_mem hlt)
      obtain ⟨u, hu⟩ := Int.eq_ofNat_of_zero_le hur.1
      have hun : u < s.length := by omega
      have cqk := hS1.bo.G.q.at' rfl k hlt
      rw [hu] at cqk
      rw [getD_lt _ _ _ hlt, hu, Int.toNat_natCast] at HIT
      have HU := Lib.hid hu
      clear hur hqr hok hu
      have hE := hS1.bo.R.e u hun
      have co := hS1.bo.R.cell hun
      obtain ⟨aom, capm, hvm⟩ := hE.slice
      rw [hvm] at co
      have HV := Lib.hid hvm
      have hbf := HBF.out u
      generalize hrow : bf.getD u [] = row at *
      have HRW := Lib.hid hrow
      have H1 := Lib.hid hbf.2
      have hrl := hbf.1
      clear hE hvm hbf hrow
      go_wp2
      clear e3 cqk co
      go_loopg [14, 48] row.length (fun gh _ i wr => ∃ (j : Nat) (vq : Value), gh = row.length - j ∧ i = .int .i64 j ∧ j ≤ row.length ∧ Srch w wr #[Value.slice ao0 g.owner.length cap0, Value.slice ao1 g.prio.length cap1, Value.slice ao2 g.succ.length cap2] B s.length ga gi gm gl ob z vq vals (attAll g p u st (row.take j)) bf)
      case atStart => exact ⟨0, _, rfl, rfl, by omega, hS1⟩
      case round =>
        obtain ⟨j, vq, hgj, rfl, hj, hS2⟩ := hrel
        have HGJ := Lib.hid hgj
        clear hgj hS1
        by_cases hltj : j < row.length
        · have hE := hS2.bo.R.e u hun
          rw [HV.out, HRW.out] at hE
          obtain ⟨gr, cr, hv, -, -⟩ := hE.row (by omega)
          simp only [Value.slice.injEq] at hv
          obtain ⟨rfl, -, rfl⟩ := hv
          have c3 := hE.at' rfl j hltj
          have hmr := H1.out row[j] (List.getElem_mem hltj)
          obtain ⟨m, hm⟩ := Int.eq_ofNat_of_zero_le hmr.1
          have hmn : m < s.length := by omega
          rw [hm] at c3
          have hok2 : AttOK s.length (1000 + k * 3000000 + (row.take j).length) (attAll g p u st (row.take j)) := attAll_ok _ HOKk.out (fun v hv => H1.out v (List.mem_of_mem_take hv))
          have HST : Hid (attAll g p u st (row.take (j + 1)) = attStep g p u (attAll g p u st (row.take j)) m) := by
            show _ = _
            rw [List.take_succ_eq_append_getElem hltj, attAll_snoc, hm]
          have hN : 1000 + k * 3000000 + (row.take j).length ≤ 100000000000 := by
            have : (row.take j).length ≤ row.length := List.length_take_le' _ _
            omega
          have hlr := hok2.lr m
          have hmu := hok2.mr u
          have hqn := hok2.qn
          generalize attAll g p u st (row.take j) = sj at *
          have hL := hS2.bo.G.lt
          have G0 := hS2.bo.G
          have e2 : wr.cell? ⟨ga, 2, none⟩ = some (.slice (some ⟨gl, 0, none⟩) s.length s.length) := G0.cell 2 rfl
          have e0 : wr.cell? ⟨ga, 0, none⟩ = some (.slice (some ⟨gi, 0, none⟩) s.length s.length) := G0.cell 0 rfl
          have hml : m < sj.lf.length := by rw [G0.ll]; exact hmn
          have hmi : m < sj.inn.length := by rw [G0.li]; exact hmn
          have hum : u < sj.mv.length := by rw [G0.lm]; exact hun
          obtain ⟨xl, hxl⟩ : ∃ x, x = sj.lf.getD m 0 := ⟨_, rfl⟩
          obtain ⟨bi, hbi⟩ : ∃ x, x = sj.inn.getD m false := ⟨_, rfl⟩
          obtain ⟨xu, hxu⟩ : ∃ x, x = sj.mv.getD u 0 := ⟨_, rfl⟩
          have cl : wr.cell? ⟨gl, m, none⟩ = some (.int .i64 xl) := by rw [hxl, getD_lt _ _ _ hml]; exact G0.l.at' G0.ll.symm m hml
          have fl := G0.l.fz G0.ll.symm m
          have G1 := G0.setL m (xl - 1)
          have ci : (wr.setCell ⟨gl, m, none⟩ (.int .i64 (xl - 1))).cell? ⟨gi, m, none⟩ = some (.bool bi) := by rw [hbi, getD_lt _ _ _ hmi]; exact G1.i.at' G1.li.symm m hmi
          have cu : (wr.setCell ⟨gl, m, none⟩ (.int .i64 (xl - 1))).cell? ⟨gm, u, none⟩ = some (.int .i64 xu) := by rw [hxu, getD_lt _ _ _ hum]; exact G1.m.at' G1.lm.symm u hum
          have e10 : (wr.setCell ⟨gl, m, none⟩ (.int .i64 (xl - 1))).cell? ⟨ga, 0, none⟩ = some (.slice (some ⟨gi, 0, none⟩) s.length s.length) := G1.cell 0 rfl
          have e11 : (wr.setCell ⟨gl, m, none⟩ (.int .i64 (xl - 1))).cell? ⟨ga, 1, none⟩ = some (.slice (some ⟨gm, 0, none⟩) s.length s.length) := G1.cell 1 rfl
          have e12 : (wr.setCell ⟨gl, m, none⟩ (.int .i64 (xl - 1))).cell? ⟨ga, 2, none⟩ = some (.slice (some ⟨gl, 0, none⟩) s.length s.length) := G1.cell 2 rfl
          have cl1 : (wr.setCell ⟨gl, m, none⟩ (.int .i64 (xl - 1))).cell? ⟨gl, m, none⟩ = some (.int .i64 (xl - 1)) := by
            have := G1.l.at' G1.ll.symm m (by simpa using hml)
            simpa using this
          have o1 : Only (GrowAt ga gi gm gl vq) wr (wr.setCell ⟨gl, m, none⟩ (.int .i64 (xl - 1))) := Only.set gl m _ (.inr (.inr (.inr (.inl rfl))))
          have hS3 : Srch w (wr.setCell ⟨gl, m, none⟩ (.int .i64 (xl - 1))) #[Value.slice ao0 g.owner.length cap0, Value.slice ao1 g.prio.length cap1, Value.slice ao2 g.succ.length cap2] B s.length ga gi gm gl ob z vq vals ⟨sj.inn, sj.mv, sj.lf.set m (xl - 1), sj.q⟩ bf := hS2.step o1 G1 (Moved.refl _ _)
          have hSN : Hid (attStep g p u sj m = if bi = false ∧ (g.owner.getD m 0 = p ∨ xl - 1 = 0) then ⟨sj.inn.set m true, sj.mv.set m (xu + 1), sj.lf.set m (xl - 1), sj.q ++ [(m : Int)]⟩ else ⟨sj.inn, sj.mv, sj.lf.set m (xl - 1), sj.q⟩) := by
            show _ = _
            simp only [attStep, Int.toNat_natCast, ← hxl, ← hbi, ← hxu, getD_set_eq _ _ _ _ hml]
          rw [← hxl] at hlr
          rw [← hxu] at hmu
          have hxb : -1000000000000 ≤ xl ∧ xl ≤ 1000000000000 := by omega
          have hub : -1000000000000 ≤ xu ∧ xu ≤ 1000000000000 := by omega
          have hq3 : sj.q.length ≤ 3000 := by omega
          have HS3 := Lib.hid hS3
          have HM := Lib.hid hm
          have hWB : Hid (B ≤ (wr.setCell ⟨gl, m, none⟩ (.int .i64 (xl - 1))).heap.size) := by have := G1.lt; have := G1.d; show _ ≤ _; omega
          clear hS2 hS3 G0 G1 hL hxl hbi hxu hlr hmu hok2 hN hmr hm hE o1 hqn hml hmi hum
          cases bi
          case true =>
            go_wp2_with (go_at_call 39; refine (has2_c _ gi _ _ m true hmn ci).mono ?_; rintro e w' ⟨rfl, rfl⟩)
            go_roundg (row.length - (j + 1))
            case measure => have := HGJ.out; omega
            case rel =>
              refine ⟨j + 1, vq, rfl, by go_num, by omega, ?_⟩
              rw [HST.out, hSN.out, if_neg (by simp)]
              exact HS3.out
          case false =>
            have hmo : m < g.owner.length := by rw [HON.out]; exact hmn
            have how := F.ow m hmn
            have d0 : (wr.setCell ⟨gl, m, none⟩ (.int .i64 (xl - 1))).cell? ⟨w.heap.size, 0, none⟩ = some (Value.slice ao0 g.owner.length cap0) := HS3.out.bx.cell 0 rfl
            obtain rfl := g0.ad (by omega)
            have c0 := cellB HS3.out.bx.bl (g0.el m hmo)
            unfold ivF at c0
            have z0 : (wr.setCell ⟨gl, m, none⟩ (.int .i64 (xl - 1))).cell? ⟨z, 0, none⟩ = some (Value.func (.func 37) #[] #[]) := cell_of_row _ _ 0 _ _ _ HS3.out.fn
            have z1 : (wr.setCell ⟨gl, m, none⟩ (.int .i64 (xl - 1))).cell? ⟨z, 1, none⟩ = some (Value.func (.func 38) #[] #[]) := cell_of_row _ _ 1 _ _ _ HS3.out.fn
            have hT0 := bxor_eq how F.pl
            generalize hgo : g.owner.getD m 0 = ow at *
            have HGO := Lib.hid hgo
            clear hgo how
            have HT : Hid (Calls Try.prog 40 #[.pointer (some ⟨ga, 0, none⟩), .int .i64 m, .int .i64 (xu + 1)] (wr.setCell ⟨gl, m, none⟩ (.int .i64 (xl - 1))) (Took (wr.setCell ⟨gl, m, none⟩ (.int .i64 (xl - 1))) B s.length ga gi gm gl vq sj.inn sj.mv (sj.lf.set m (xl - 1)) sj.q m (xu + 1))) := take_c _ _ _ ga gi gm gl vq _ _ _ _ m (xu + 1) HS3.out.bo.G hmn hq3 hWB.out
            by_cases hop : ow = p
            · have hbx := hT0.1 hop
              have HOP := Lib.hid hop
              clear hT0 hop
              go_wp2_with (first | (go_at_call 39; refine (has2_c _ gi _ _ m false hmn ci).mono ?_; rintro e w' ⟨rfl, rfl⟩) | (go_at_call 37; refine (one_c _ _ _).mono ?_; rintro e w' ⟨rfl, rfl⟩) | (go_at_call 38; refine (every_c _ ga gl _ _ m _ hmn e12 cl1).mono ?_; rintro e w' ⟨rfl, rfl⟩; rw [hz0]) | fail)
              refine HT.out.mono ?_
              rintro e w5 ⟨rfl, vq', G5, o5, m5⟩
              have HS5 : Hid (Srch w w5 _ B s.length ga gi gm gl ob z vq' vals ⟨sj.inn.set m true, sj.mv.set m (xu + 1), sj.lf.set m (xl - 1), sj.q ++ [(m : Int)]⟩ bf) := HS3.out.step o5 G5 m5
              clear G5 o5 m5
              go_wp2
              go_roundg (row.length - (j + 1))
              case measure => have := HGJ.out; omega
              case rel =>
                refine ⟨j + 1, vq', rfl, by go_num, by omega, ?_⟩
                rw [HST.out, hSN.out, if_pos (by refine ⟨?_, .inl HOP.out⟩; first | rfl | trivial)]
                exact HS5.out
            · have hbx := hT0.2 hop
              have HOP := Lib.hid hop
              clear hT0 hop
              cases hz0 : (xl - 1 == 0)
              · go_wp2_with (first | (go_at_call 39; refine (has2_c _ gi _ _ m false hmn ci).mono ?_; rintro e w' ⟨rfl, rfl⟩) | (go_at_call 38; refine (every_c _ ga gl _ _ m _ hmn e12 cl1).mono ?_; rintro e w' ⟨rfl, rfl⟩; rw [hz0]))
                go_roundg (row.length - (j + 1))
                case measure => have := HGJ.out; omega
                case rel =>
                  refine ⟨j + 1, vq, rfl, by go_num, by omega, ?_⟩
                  rw [HST.out, hSN.out, if_neg (by rintro ⟨_, h | h⟩; exact HOP.out h; simp [h] at hz0)]
                  exact HS3.out
              · have HZ := Lib.hid hz0
                go_wp2_with (first | (go_at_call 39; refine (has2_c _ gi _ _ m false hmn ci).mono ?_; rintro e w' ⟨rfl, rfl⟩) | (go_at_call 37; refine (one_c _ _ _).mono ?_; rintro e w' ⟨rfl, rfl⟩) | (go_at_call 38; refine (every_c _ ga gl _ _ m _ hmn e12 cl1).mono ?_; rintro e w' ⟨rfl, rfl⟩; rw [hz0]) | fail)
                clear hz0
                refine HT.out.mono ?_
                rintro e w5 ⟨rfl, vq', G5, o5, m5⟩
                have HS5 : Hid (Srch w w5 _ B s.length ga gi gm gl ob z vq' vals ⟨sj.inn.set m true, sj.mv.set m (xu + 1), sj.lf.set m (xl - 1), sj.q ++ [(m : Int)]⟩ bf) := HS3.out.step o5 G5 m5
                clear G5 o5 m5
                go_wp2
                go_roundg (row.length - (j + 1))
                case measure => have := HGJ.out; omega
                case rel =>
                  refine ⟨j + 1, vq', rfl, by go_num, by omega, ?_⟩
                  rw [HST.out, hSN.out, if_pos (by refine ⟨?_, .inr (by simpa using HZ.out)⟩; first | rfl | trivial)]
                  exact HS5.out
        · obtain rfl : j = row.length := by omega
          go_wp2
          go_roundg (s.length - (k + 1))
          case measure => have := HG.out; omega
          case rel =>
            refine ⟨k + 1, vq, rfl, by go_num, by omega, ?_⟩
            rw [List.take_length] at hS2
            rw [HIT.out]
            exact hS2
    · go_wp2
      have hfn : attIter g p bf st0 s.length = attIter g p bf st0 k := by
        have h1 := attIter_stop (g := g) (p := p) (bf := bf) (st := st0) (k := k) (by omega) (s.length - k)
        rwa [show k + (s.length - k) = s.length from by omega] at h1
      have e0 : wr.cell? ⟨ga, 0, none⟩ = some (.slice (some ⟨gi, 0, none⟩) s.length s.length) := hS1.bo.G.cell 0 rfl
      have e1 : wr.cell? ⟨ga, 1, none⟩ = some (.slice (some ⟨gm, 0, none⟩) s.length s.length) := hS1.bo.G.cell 1 rfl
      have HFN := Lib.hid hfn
      clear hfn
      go_quiet (fail)
      go_wp2
      go_ret2
      refine ⟨_, _, rfl, ?_, ?_, belD hS1.bx.bl _⟩
      · rw [hfin.out, HFN.out]; exact (hS1.bo.G.i.below (below_draws _ _ _)).base (by have := hS1.Bb; omega)
      · rw [hfin.out, HFN.out]; exact (hS1.bo.G.m.below (below_draws _ _ _)).base (by have := hS1.Bb; omega)

end Go.Proofs.Ytjhafakkadnfmaa
