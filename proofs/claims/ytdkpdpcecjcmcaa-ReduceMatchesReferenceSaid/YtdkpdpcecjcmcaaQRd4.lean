/- What a visit of the search for the parts of a flow does. -/
import Derived.StillTailTactics
import Derived.Test.YtdkpdpcecjcmcaaQRd3
namespace Go.Proofs.Ytdkpdpcecjcmcaa
open Go.RowKit

/-- Where the moves lead. -/
def tgN (nx : List (List Int)) (m : Mv) : Nat := ((nx.getD m.1 []).getD m.2 0).toNat
/-- The moves of the set with a number. -/
def SetM (n k : Nat) (st : Nat → Nat → Nat) (num : Nat) (m : Mv) : Prop := m.1 < n ∧ m.2 < k ∧ st m.1 m.2 = num
/-- The states of a set's moves. -/
def UsM (nx : List (List Int)) (S : Mv → Prop) (v : Nat) : Prop := ∃ m, S m ∧ (m.1 = v ∨ tgN nx m = v)
structure NX (n k : Nat) (nx : List (List Int)) : Prop where
  n3 : n ≤ 3000
  k6 : k ≤ 64
  ln : nx.length = n
  lr : ∀ j, j < n → (nx.getD j []).length = k
  rg : ∀ j, j < n → ∀ x ∈ nx.getD j [], 0 ≤ x ∧ x < n
theorem NX.tg {n k : Nat} {nx : List (List Int)} (h : NX n k nx) {m : Mv} (h1 : m.1 < n) (h2 : m.2 < k) : tgN nx m < n ∧ (nx.getD m.1 []).getD m.2 0 = (tgN nx m : Int) := by
  have hl := h.lr m.1 h1
  have hlt : m.2 < (nx.getD m.1 []).length := by omega
  have hm : (nx.getD m.1 []).getD m.2 0 ∈ nx.getD m.1 [] := by rw [getD_lt _ _ _ hlt]; exact List.getElem_mem hlt
  have := h.rg m.1 h1 _ hm
  unfold tgN
  omega
theorem NX.us {n k : Nat} {nx : List (List Int)} {st : Nat → Nat → Nat} {num : Nat} (h : NX n k nx) {v : Nat} (hv : UsM nx (SetM n k st num) v) : v < n := by
  obtain ⟨m, ⟨h1, h2, -⟩, e | e⟩ := hv
  · omega
  · rw [← e]; exact (h.tg h1 h2).1
def popF (F : Ar → Nat → Nat) (l : List Nat) (x : Nat) : Ar → Nat → Nat := fun y => if y = .prt then (fun v => if v ∈ l then x else F .prt v) else F y
theorem popF_nil (F : Ar → Nat → Nat) (x : Nat) : popF F [] x = F := by
  funext y v
  unfold popF
  by_cases e : y = .prt
  · rw [if_pos e, if_neg (by simp), e]
  · rw [if_neg e]
theorem popF_ne (F : Ar → Nat → Nat) (l : List Nat) (x : Nat) {y : Ar} (h : y ≠ .prt) : popF F l x y = F y := if_neg h
theorem popF_prt (F : Ar → Nat → Nat) (l : List Nat) (x v : Nat) : popF F l x .prt v = if v ∈ l then x else F .prt v := by unfold popF; rw [if_pos rfl]
theorem popF_up (F : Ar → Nat → Nat) (l : List Nat) (x u : Nat) : upF (popF F l x) .prt u x = popF F (u :: l) x := by
  funext y v
  by_cases e : y = .prt
  · subst e
    rw [upF_same, popF_prt]
    unfold upN
    rw [popF_prt]
    by_cases e2 : v = u
    · subst e2; simp
    · rw [if_neg e2]
      simp [e2]
  · rw [upF_ne _ _ _ e, popF_ne _ _ _ e, popF_ne _ _ _ e]
theorem upF_comm (F : Ar → Nat → Nat) {x y : Ar} (h : x ≠ y) (i j a b : Nat) : upF (upF F x i a) y j b = upF (upF F y j b) x i a := by
  funext z v
  by_cases e : z = x
  · subst e
    rw [upF_ne _ _ _ h, upF_same, upF_same, upF_ne _ _ _ h]
  · by_cases e2 : z = y
    · subst e2
      rw [upF_same, upF_ne _ _ _ e, upF_ne _ _ _ e, upF_same]
    · rw [upF_ne _ _ _ e2, upF_ne _ _ _ e, upF_ne _ _ _ e, upF_ne _ _ _ e2]

theorem Rp.popV {n : Nat} {E : Nat → Nat → Prop} {U : Nat → Prop} {t t0 : Tj} {G : List Nat} {F : Ar → Nat → Nat} {cnt : Nat} {stk stk0 r : List Nat} {s : Nat} (h : Rp n U t F cnt stk) (hi : TInv E t G) (h0 : t0.stk = stk0) (hs : stk = stk0 ++ s :: r) (hus : U s) :
    Rp n U (t.pop t0 s) (popF F (s :: r) (F .idx s)) cnt stk0 := by
  have hnd := hi.nd
  rw [h.sk, hs, List.nodup_append] at hnd
  refine ⟨h.cn, h0, fun v hv => ?_, fun v hv => ?_, fun v hv => ?_, h.un, h.od⟩
  · rw [popF_ne _ _ _ (by decide)]; exact h.nu v hv
  · rw [popF_prt]
    show _ = if v ∈ t.stk ∧ v ∉ t0.stk then t.num s else t.prt v
    have e : v ∈ s :: r ↔ v ∈ t.stk ∧ v ∉ t0.stk := by
      rw [h.sk, hs, h0, List.mem_append]
      constructor
      · intro k
        exact ⟨.inr k, fun k2 => hnd.2.2 v k2 v k rfl⟩
      · rintro ⟨k | k, k2⟩
        · exact absurd k k2
        · exact k
    by_cases c : v ∈ s :: r
    · rw [if_pos c, if_pos (e.1 c)]; exact h.nu s hus
    · rw [if_neg c, if_neg fun k => c (e.2 k)]; exact h.pr v hv
  · rw [popF_ne _ _ _ (by decide)]; exact h.lo v hv

def VOut (D : Vd) (C : Nat) (w0 w : World) (nx : List (List Int)) (st : Nat → Nat → Nat) (t : Tj) (s : Nat) (G : List Nat) (e : Ending) (w' : World) : Prop :=
  ∃ (t' : Tj) (F' : Ar → Nat → Nat) (cnt' : Nat) (vs' : Value) (stk' : List Nat), e = .returned (.tuple #[]) ∧ VS D C w0 w' nx st F' cnt' vs' stk' ∧ Rp D.A.n (UsM nx (SetM D.A.n D.A.k st D.num)) t' F' cnt' stk' ∧ t.cnt < cnt' ∧
    TPost (EdS (tgN nx) (SetM D.A.n D.A.k st D.num)) t t' s G ∧ Only (D.hot C) w w'

theorem OI.capL {w : World} {B g n cap : Nat} {l : List Int} (h : OI w B (.slice (some ⟨g, 0, none⟩) n cap) l) : n ≤ cap ∧ cap ≤ maxLen := by
  unfold OI at h
  rcases h.2 with ⟨h', _⟩ | ⟨g', cap', cur, hv, hb, hg, hnc, hcm, hcs, ht⟩
  · cases h'
  · injection hv with h1 h2 h3
    subst h2 h3
    exact ⟨hnc, hcm⟩
theorem hot_zc (D : Vd) (C : Nat) : D.hot C D.zc := .inl rfl
theorem hot_zs (D : Vd) (C : Nat) : D.hot C D.zs := .inr (.inl rfl)
theorem hot_ab (D : Vd) (C : Nat) (x : Ar) : D.hot C (D.A.ab x) := .inr (.inr (.inl ⟨x, rfl⟩))

set_option maxRecDepth 100000 in
set_option maxHeartbeats 8000000 in
theorem visit_c (C : Nat) (D : Vd) (w0 : World) (nx : List (List Int)) (st : Nat → Nat → Nat) (hD : D.Ok w0.heap.size C) (hx : NX D.A.n D.A.k nx) (m : Nat) : ∀ (w : World) (t : Tj) (F : Ar → Nat → Nat) (cnt : Nat) (vs : Value) (stk : List Nat) (G : List Nat) (s : Nat),
    D.A.n - cnt < m → VS D C w0 w nx st F cnt vs stk → Rp D.A.n (UsM nx (SetM D.A.n D.A.k st D.num)) t F cnt stk → TInv (EdS (tgN nx) (SetM D.A.n D.A.k st D.num)) t G → t.num s = 0 → UsM nx (SetM D.A.n D.A.k st D.num) s → (∀ g ∈ G, Rch (EdS (tgN nx) (SetM D.A.n D.A.k st D.num)) g s) →
    Calls Try.prog 59 #[.int .i64 (s : Int), .pointer (some ⟨D.zc, 0, none⟩), .pointer (some ⟨D.zf, 0, none⟩), .pointer (some ⟨D.zs, 0, none⟩), .pointer (some ⟨D.zn, 0, none⟩), .pointer (some ⟨D.zv, 0, none⟩)] w (VOut D C w0 w nx st t s G) := by
  induction m with
  | zero => intro _ _ _ _ _ _ _ _ h; exact absurd h (by omega)
  | succ m ih =>
  intro w t F cnt vs stk G s hm hS hR hT hs hus hG
  have HIH := Lib.hid ih
  have HX := Lib.hid hx
  have HD := Lib.hid hD
  have hsn := hx.us hus
  have hn3 := hx.n3
  have hroom := hR.room (fun v hv => hx.us hv) hs hus
  have HUS := Lib.hid hus
  have HSK : Hid (t.stk = stk) := hR.sk
  have HCN : Hid (t.cnt = cnt) := hR.cn
  obtain ⟨aS, cS, hvs⟩ := hS.o.slice
  rw [castL_len] at hvs
  subst hvs
  have HS1 : Hid (VS D C w0 (w.setCell ⟨D.zc, 0, none⟩ (.int .i64 ((cnt : Int) + 1))) nx st F (cnt + 1) (.slice aS stk.length cS) stk) := hS.count hD (cnt + 1)
  have HO1 : Hid (Only (D.hot C) w (w.setCell ⟨D.zc, 0, none⟩ (.int .i64 ((cnt : Int) + 1)))) := Only.set _ _ _ (hot_zc D C)
  have HR0 := Lib.hid (hR.openV hs hus)
  have HM0 : Hid (TMid (EdS (tgN nx) (SetM D.A.n D.A.k st D.num)) t (t.openV s) s G (fun _ => False)) := TMid.start hT hs hG
  have c1 := cell_of_row _ _ 0 _ _ _ hS.c
  have c2 := frozen_of_row _ _ 0 _ _ hS.c
  have hstl : stk.length ≤ 3000 := by
    have h1 := ndl_len hT.nd fun u hu => hx.us (hR.un u ((hT.st u).1 hu).1)
    rw [hR.sk] at h1
    omega
  clear ih hx hS hR hT hs hus hG
  go_enter Try.func59, Try.ntmps59
  go_upto_region 1 with (fail)
  generalize w.setCell ⟨D.zc, 0, none⟩ (.int .i64 ((cnt : Int) + 1)) = w1 at *
  clear c1 c2
  have c1 := cell_of_row _ _ 0 _ _ _ HS1.out.c
  have f1 := cell_of_row _ _ 0 _ _ _ HS1.out.f
  have g6 := HS1.out.m.c6
  have g7 := HS1.out.m.c7
  have x6 := HS1.out.m.arr .idx hsn
  have x7 := HS1.out.m.arr .low hsn
  have n1 : ¬ D.A.ab .low = D.A.ab .idx := fun e => by have := HD.out.a.aa _ _ e; cases this
  have n2 : ¬ D.A.ab .idx = D.A.ab .low := fun e => n1 e.symm
  have n3 : ¬ D.zc = D.A.ab .idx := fun e => (HD.out.ac .idx).1 e.symm
  have n4 : ¬ D.zc = D.A.ab .low := fun e => (HD.out.ac .low).1 e.symm
  have n5 : ¬ D.zf = D.A.ab .idx := fun e => (HD.out.ac .idx).2.2.1 e.symm
  have n6 : ¬ D.zf = D.A.ab .low := fun e => (HD.out.ac .low).2.2.1 e.symm
  have n7 : ¬ D.A.fb = D.A.ab .idx := HD.out.a.fa .idx
  have n8 : ¬ D.A.fb = D.A.ab .low := HD.out.a.fa .low
  have z6 := (HS1.out.m.a .idx).fz s
  have z7 := (HS1.out.m.a .low).fz s
  have HP1 : Hid (VS D C w0 ((w1.setCell ⟨D.A.ab .idx, s, none⟩ (.int .i64 ((cnt : Int) + 1))).setCell ⟨D.A.ab .low, s, none⟩ (.int .i64 ((cnt : Int) + 1))).drew nx st (upF (upF F .idx s (cnt + 1)) .low s (cnt + 1)) (cnt + 1) (.slice aS stk.length cS) stk) :=
    ((HS1.out.put HD.out .idx s (cnt + 1)).put HD.out .low s (cnt + 1)).below (Below.drew (Below.refl _ _))
  have HQ1 : Hid (Only (D.hot C) w ((w1.setCell ⟨D.A.ab .idx, s, none⟩ (.int .i64 ((cnt : Int) + 1))).setCell ⟨D.A.ab .low, s, none⟩ (.int .i64 ((cnt : Int) + 1))).drew) :=
    ((HO1.out.trans (Only.set _ _ _ (hot_ab D C .idx))).trans (Only.set _ _ _ (hot_ab D C .low))).trans (Only.of_below (Below.drew (Below.refl _ _)))
  go_cut [] (fun wx => Hid (VS D C w0 wx nx st (upF (upF F .idx s (cnt + 1)) .low s (cnt + 1)) (cnt + 1) (.slice aS stk.length cS) stk) ∧ Hid (Only (D.hot C) w wx))
  case first =>
    go_region
    all_goals
      go_wp2_with fail
      go_meet
      case rel => exact ⟨HP1, HQ1⟩
  case rest =>
    obtain ⟨HS2, HO2⟩ := hcut
    clear HP1 HQ1 HS1 HO1 c1 f1 g6 g7 x6 x7 n1 n2 n3 n4 n5 n6 n7 n8 z6 z7
    have hC := HS2.out.z
    have hOS := HS2.out.o
    have z1 := cell_of_row _ _ 0 _ _ _ HS2.out.s
    obtain ⟨aN, cN, bN, oN, V, hvN, hdN, hmN, hVN⟩ := HS2.out.x.data
    rw [HX.out.ln] at hvN hdN hmN hVN
    obtain ⟨aR, cR, hVs⟩ := (hVN s hsn).2.shape
    rw [HX.out.lr s hsn] at hVs
    have HVN : Hid (D.A.vN = .slice (some ⟨bN, oN, none⟩) D.A.n cN) := by show _ = _; rw [hvN, hdN (by omega)]
    have HVs : Hid (∀ W, Below w0.heap.size w0 W → W.cell? ⟨bN, oN + s, none⟩ = some (.slice aR D.A.k cR) ∧ IsInts W (.slice aR D.A.k cR) (nx.getD s [])) := fun W hW => ⟨by rw [← hVs]; exact cellB hW (hVN s hsn).1, by rw [← hVs]; exact (hVN s hsn).2.below hW⟩
    clear hvN hdN hmN hVN hVs
    go_wp2_with (at_builtin; refine app_int rfl _ _ (s : Int) rfl C _ _ hOS rfl _ (by simp) rfl (by rw [castL_len]; omega) hC ?_; intro v' w' hown' hg hmv; obtain ⟨ao', cap', hv'⟩ := hown'.slice; rw [List.length_append, List.length_singleton, castL_len] at hv'; subst hv'; have HP := Lib.hid (HS2.out.push HD.out hown' hg); have HG := Lib.hid hg; have k2 := cell_of_row _ _ 0 _ _ _ HP.out.2; have f2 := frozen_of_row _ _ 0 _ _ HP.out.2; have q1 := cell_of_row _ _ 0 _ _ _ HP.out.1.f; have q2 := HP.out.1.m.c2; rw [HVN.out] at q2; have q3 := (HVs.out _ HP.out.1.b).1; clear hown' hg hmv hOS z1)
    have HS3 := Lib.hid HP.out.1
    have HO3 : Hid (Only (D.hot C) w (w'.setCell ⟨D.zs, 0, none⟩ (.slice ao' (stk.length + 1) cap'))) := (HO2.out.trans ((Only.of_grown HG.out).mono fun q _ hq => .inr (.inr (.inr (HS2.out.o.ge q hq))))).trans (Only.set _ _ _ (hot_zs D C))
    clear k2 f2 q1 q2 q3 HP HG HS2 HO2
    generalize w'.setCell ⟨D.zs, 0, none⟩ (.slice ao' (stk.length + 1) cap') = w3 at *
    generalize Value.slice ao' (stk.length + 1) cap' = vs3 at *
    have hk6 : D.A.k ≤ 64 := HX.out.k6
    go_loopg [39] D.A.k (fun gh i wr => ∃ (x : Nat) (t1 : Tj) (F1 : Ar → Nat → Nat) (cnt1 : Nat) (vs1 : Value) (stk1 : List Nat), gh = D.A.k - x ∧ i = .int .i64 x ∧ x ≤ D.A.k ∧ Hid (VS D C w0 wr nx st F1 cnt1 vs1 stk1) ∧ Hid (Rp D.A.n (UsM nx (SetM D.A.n D.A.k st D.num)) t1 F1 cnt1 stk1) ∧ Hid (cnt < cnt1) ∧
      Hid (TMid (EdS (tgN nx) (SetM D.A.n D.A.k st D.num)) t t1 s G (fun u => ∃ y, y < x ∧ st s y = D.num ∧ tgN nx (s, y) = u)) ∧ Hid (Only (D.hot C) w wr))
    case atStart => exact ⟨0, t.openV s, _, _, _, _, rfl, rfl, by omega, HS3, HR0, Nat.lt_succ_self _, HM0.out.more fun u hu => absurd hu (by rintro ⟨y, hy, -⟩; omega), HO3⟩
    case round => as_aux_lemma =>
      clear HS3 HO3 HR0 HM0
      obtain ⟨x, t1, F1, cnt1, vs1, stk1, hgx, rfl, hxk, HSr, HRr, HCr, HMr, HOr⟩ := hrel
      have HGX := Lib.hid hgx
      clear hgx
      by_cases hlt : x < D.A.k
      · obtain ⟨bR, oR, had, -, hdt⟩ := (HVs.out _ HSr.out.b).2.dat
        have hlr := HX.out.lr s hsn
        obtain rfl := had (by omega)
        have eu := hdt x (by omega)
        obtain ⟨hun, hue⟩ := HX.out.tg (m := (s, x)) hsn hlt
        rw [hue] at eu
        have HUE : Hid (∃ u, tgN nx (s, x) = u) := ⟨_, rfl⟩
        clear had hdt hlr hue HUE
        have f1 := cell_of_row _ _ 0 _ _ _ HSr.out.f
        have g4 := HSr.out.m.c4
        have gs := HSr.out.m.row hsn
        have gx := HSr.out.m.set hsn hlt
        have fn := cell_of_row _ _ 0 _ _ _ HSr.out.n
        by_cases hq : st s x = D.num
        · have hb : ((st s x : Int) != (D.num : Int)) = false := by simp [hq]
          have HQ := Lib.hid hq
          clear hq
          have HEU : Hid (EdS (tgN nx) (SetM D.A.n D.A.k st D.num) s (tgN nx (s, x))) := ⟨(s, x), ⟨hsn, hlt, HQ.out⟩, rfl, rfl⟩
          have HUU : Hid (UsM nx (SetM D.A.n D.A.k st D.num) (tgN nx (s, x))) := ⟨(s, x), ⟨hsn, hlt, HQ.out⟩, .inr rfl⟩
          have HDn : Hid (∀ u, (∃ y, y < x + 1 ∧ st s y = D.num ∧ tgN nx (s, y) = u) → (∃ y, y < x ∧ st s y = D.num ∧ tgN nx (s, y) = u) ∨ u = tgN nx (s, x)) := by
            rintro u ⟨y, h1, h2, h3⟩
            by_cases e : y = x
            · subst e; exact .inr h3.symm
            · exact .inl ⟨y, by omega, h2, h3⟩
          generalize tgN nx (s, x) = u at *
          go_wp2
          refine wp_region_quiet_lit (by kernel_rfl) (by kernel_rfl) ?_
          ((repeat (go_big_quiet_step (fail))); refine wpQuiet_nil ?_; rintro _ ⟨nq, rfl⟩)
          clear f1 g4 gs gx fn hb
          have HS4 := Lib.hid (HSr.out.below (below_draws wr wr.heap.size nq))
          have HO4 : Hid (Only (D.hot C) w (wr.drewN nq)) := HOr.out.trans (Only.of_below (below_draws _ _ _))
          generalize wr.drewN nq = w4 at *
          clear HSr HOr
          have f1 := cell_of_row _ _ 0 _ _ _ HS4.out.f
          have g6 := HS4.out.m.c6
          have xu := HS4.out.m.arr .idx hun
          go_upto_if 63 with (fail)
          go_cut [] (fun wx => ∃ (t2 : Tj) (F2 : Ar → Nat → Nat) (cnt2 : Nat) (vs2 : Value) (stk2 : List Nat), Hid (VS D C w0 wx nx st F2 cnt2 vs2 stk2) ∧ Hid (Rp D.A.n (UsM nx (SetM D.A.n D.A.k st D.num)) t2 F2 cnt2 stk2) ∧ Hid (cnt < cnt2) ∧
            Hid ((t2.prt u = 0 → TMid (EdS (tgN nx) (SetM D.A.n D.A.k st D.num)) t (t2.lower s u) s G (fun z => (∃ y, y < x ∧ st s y = D.num ∧ tgN nx (s, y) = z) ∨ z = u)) ∧ (t2.prt u ≠ 0 → TMid (EdS (tgN nx) (SetM D.A.n D.A.k st D.num)) t t2 s G (fun z => (∃ y, y < x ∧ st s y = D.num ∧ tgN nx (s, y) = z) ∨ z = u)) ∧ t2.num u ≠ 0 ∧ t2.num s ≠ 0) ∧ Hid (Only (D.hot C) w wx))
          case first =>
            by_cases h0 : F1 .idx u = 0
            · have hz : ((F1 .idx u : Int) == 0) = true := by simp [h0]
              have hnu : t1.num u = 0 := by rw [← HRr.out.nu u HUU.out]; exact h0
              have v1 := cell_of_row _ _ 0 _ _ _ HS4.out.v
              unfold Vd.fn at v1
              have hm' : D.A.n - cnt1 < m := by have := HCr.out; omega
              have HNU := Lib.hid hnu
              clear h0 hnu
              go_wp2_with fail
              refine (HIH.out w4 t1 F1 cnt1 vs1 stk1 (G ++ [s]) u hm' HS4.out HRr.out HMr.out.inv HNU.out HUU.out (HMr.out.pre HEU.out)).mono ?_
              rintro e w7 ⟨t2, F2, cnt2, vs2, stk2, rfl, hS2, hR2, hc2, hP2, hO2⟩
              have HS2 := Lib.hid hS2
              have HR2 := Lib.hid hR2
              have HC2 : Hid (cnt < cnt2) := by have h1 := HCr.out; have h2 := HRr.out.cn; show _ < _; omega
              have HO2 := Lib.hid (HO4.out.trans hO2)
              have HQ2 : Hid ((t2.prt u = 0 → TMid (EdS (tgN nx) (SetM D.A.n D.A.k st D.num)) t (t2.lower s u) s G (fun z => (∃ y, y < x ∧ st s y = D.num ∧ tgN nx (s, y) = z) ∨ z = u)) ∧ (t2.prt u ≠ 0 → TMid (EdS (tgN nx) (SetM D.A.n D.A.k st D.num)) t t2 s G (fun z => (∃ y, y < x ∧ st s y = D.num ∧ tgN nx (s, y) = z) ∨ z = u)) ∧ t2.num u ≠ 0 ∧ t2.num s ≠ 0) := by
                have hs1 : t1.num s ≠ 0 := ((HMr.out.inv.st s).1 HMr.out.smem).1
                exact ⟨fun h => HMr.out.visitLow HEU.out hP2 h, fun h => HMr.out.visitIn hP2 h, hP2.nz, by rw [hP2.ext.nu s hs1]; exact hs1⟩
              clear hS2 hR2 hc2 hP2 hO2 f1 g6 xu v1 hz
              go_wp2_with fail
              go_meet
              case rel => exact ⟨t2, F2, cnt2, vs2, stk2, HS2, HR2, HC2, HQ2, HO2⟩
            · have hz : ((F1 .idx u : Int) == 0) = false := by simp [h0]
              have HQ2 : Hid ((t1.prt u = 0 → TMid (EdS (tgN nx) (SetM D.A.n D.A.k st D.num)) t (t1.lower s u) s G (fun z => (∃ y, y < x ∧ st s y = D.num ∧ tgN nx (s, y) = z) ∨ z = u)) ∧ (t1.prt u ≠ 0 → TMid (EdS (tgN nx) (SetM D.A.n D.A.k st D.num)) t t1 s G (fun z => (∃ y, y < x ∧ st s y = D.num ∧ tgN nx (s, y) = z) ∨ z = u)) ∧ t1.num u ≠ 0 ∧ t1.num s ≠ 0) := by
                have hs1 : t1.num s ≠ 0 := ((HMr.out.inv.st s).1 HMr.out.smem).1
                have hu1 : t1.num u ≠ 0 := by rw [← HRr.out.nu u HUU.out]; exact h0
                exact ⟨fun h => HMr.out.low ((HMr.out.inv.st u).2 ⟨hu1, h⟩) HEU.out, fun h => HMr.out.skip h, hu1, hs1⟩
              clear h0
              go_wp2_with fail
              go_meet
              case rel => exact ⟨t1, F1, cnt1, vs1, stk1, HS4, HRr, HCr, HQ2, HO4⟩
          case rest =>
            obtain ⟨t2, F2, cnt2, vs2, stk2, HS2, HR2, HC2, HQ2, HO2⟩ := hcut
            clear HS4 HO4 f1 g6 xu
            have f1 := cell_of_row _ _ 0 _ _ _ HS2.out.f
            have g5 := HS2.out.m.c5
            have xu := HS2.out.m.arr .prt hun
            by_cases h0 : F2 .prt u = 0
            · have hz : ((F2 .prt u : Int) == 0) = true := by simp [h0]
              have HMn : Hid (TMid (EdS (tgN nx) (SetM D.A.n D.A.k st D.num)) t (t2.lower s u) s G (fun z => ∃ y, y < x + 1 ∧ st s y = D.num ∧ tgN nx (s, y) = z)) :=
                (HQ2.out.1 (by rw [← HR2.out.pr u HUU.out]; exact h0)).more fun z hz => .inl (HDn.out z hz)
              have HRn := Lib.hid (HR2.out.lower HQ2.out.2.2.2 HQ2.out.2.2.1)
              clear h0 HQ2
              have g7 := HS2.out.m.c7
              have xs := HS2.out.m.arr .low hsn
              have xv := HS2.out.m.arr .low hun
              have zs := (HS2.out.m.a .low).fz s
              go_upto_region 10 with (fail)
              go_still_tail 21, (by kernel_rfl)
              change wpList _ _ _ _ _ wc.drew
              have HS3 := Lib.hid (HS2.out.below (Below.drew (Below.refl _ _)))
              have HO3 : Hid (Only (D.hot C) w wc.drew) := HO2.out.trans (Only.of_below (Below.drew (Below.refl _ _)))
              clear f1 g5 g7 xu xs xv zs HS2 HO2
              generalize wc.drew = w5 at *
              have g7 := HS3.out.m.c7
              have xs := HS3.out.m.arr .low hsn
              have zs := (HS3.out.m.a .low).fz s
              have HSn := Lib.hid (HS3.out.put HD.out .low s (min (F2 .low s) (F2 .low u)))
              have HOn : Hid (Only (D.hot C) w (w5.setCell ⟨D.A.ab .low, s, none⟩ (.int .i64 ((min (F2 .low s) (F2 .low u) : Nat) : Int)))) := HO3.out.trans (Only.set _ _ _ (hot_ab D C .low))
              clear HS3 HO3
              by_cases hle : F2 .low s ≤ F2 .low u
              · have hmn : min (F2 .low s) (F2 .low u) = F2 .low s := by omega
                have hle2 : (F2 .low s : Int) ≤ (F2 .low u : Int) := by omega
                rw [hmn] at HSn HOn HRn
                clear hmn
                go_wp2
                all_goals
                  go_roundg (D.A.k - (x + 1))
                  case measure => have := HGX.out; omega
                  case rel => exact ⟨x + 1, _, _, _, _, _, rfl, by go_num, by omega, HSn, HRn, HC2, HMn, HOn⟩
              · have hmn : min (F2 .low s) (F2 .low u) = F2 .low u := by omega
                have hle2 : (F2 .low u : Int) < (F2 .low s : Int) := by omega
                rw [hmn] at HSn HOn HRn
                clear hmn
                go_wp2
                all_goals
                  go_roundg (D.A.k - (x + 1))
                  case measure => have := HGX.out; omega
                  case rel => exact ⟨x + 1, _, _, _, _, _, rfl, by go_num, by omega, HSn, HRn, HC2, HMn, HOn⟩
            · have hz : ((F2 .prt u : Int) == 0) = false := by simp [h0]
              have HMn : Hid (TMid (EdS (tgN nx) (SetM D.A.n D.A.k st D.num)) t t2 s G (fun z => ∃ y, y < x + 1 ∧ st s y = D.num ∧ tgN nx (s, y) = z)) :=
                (HQ2.out.2.1 (by rw [← HR2.out.pr u HUU.out]; exact h0)).more fun z hz => .inl (HDn.out z hz)
              clear h0 HQ2
              go_wp2
              go_roundg (D.A.k - (x + 1))
              case measure => have := HGX.out; omega
              case rel => exact ⟨x + 1, t2, _, _, _, _, rfl, by go_num, by omega, HS2, HR2, HC2, HMn, HO2⟩
        · have hb : ((st s x : Int) != (D.num : Int)) = true := by simp; omega
          have HDn : Hid (∀ u, (∃ y, y < x + 1 ∧ st s y = D.num ∧ tgN nx (s, y) = u) → (∃ y, y < x ∧ st s y = D.num ∧ tgN nx (s, y) = u)) := by
            rintro u ⟨y, h1, h2, h3⟩
            by_cases e : y = x
            · subst e; exact absurd h2 hq
            · exact ⟨y, by omega, h2, h3⟩
          clear hq
          generalize tgN nx (s, x) = u at *
          go_wp2
          refine wp_region_quiet_lit (by kernel_rfl) (by kernel_rfl) ?_
          ((repeat (go_big_quiet_step (fail))); refine wpQuiet_nil ?_; rintro _ ⟨nq, rfl⟩)
          have HS4 := Lib.hid (HSr.out.below (below_draws wr wr.heap.size nq))
          have HO4 : Hid (Only (D.hot C) w (wr.drewN nq)) := HOr.out.trans (Only.of_below (below_draws _ _ _))
          go_wp2
          go_roundg (D.A.k - (x + 1))
          case measure => have := HGX.out; omega
          case rel => exact ⟨x + 1, t1, _, _, _, _, rfl, by go_num, by omega, HS4, HRr, HCr, HMr.out.more fun u hu => .inl (HDn.out u hu), HO4⟩
      · have hxe : x = D.A.k := by omega
        have HMf : Hid (TMid (EdS (tgN nx) (SetM D.A.n D.A.k st D.num)) t t1 s G (fun u => EdS (tgN nx) (SetM D.A.n D.A.k st D.num) s u)) := HMr.out.more fun u hu => .inl (by
          obtain ⟨⟨a, y⟩, ⟨h1, h2, h3⟩, rfl, h4⟩ := hu
          exact ⟨y, by rw [hxe]; exact h2, h3, h4⟩)
        subst hxe
        have hs1 : t1.num s ≠ 0 := ((HMf.out.inv.st s).1 HMf.out.smem).1
        have hlow := HRr.out.lo s hs1
        have hnum := HRr.out.nu s HUS.out
        have hln := (HMf.out.inv.lw s HMf.out.smem).1
        have HLN : Hid (F1 .low s = t1.low s ∧ F1 .idx s = t1.num s ∧ t1.low s ≤ t1.num s) := ⟨hlow, hnum, hln⟩
        have f1 := cell_of_row _ _ 0 _ _ _ HSr.out.f
        have g6 := HSr.out.m.c6
        have g7 := HSr.out.m.c7
        have xi := HSr.out.m.arr .idx hsn
        have xl := HSr.out.m.arr .low hsn
        by_cases hle : F1 .low s < F1 .idx s
        · have hle2 : (F1 .low s : Int) < (F1 .idx s : Int) := by omega
          have HP : Hid (TPost (EdS (tgN nx) (SetM D.A.n D.A.k st D.num)) t t1 s G) := HMf.out.leave (fun _ h => h) (by omega)
          have HCC : Hid (t.cnt < cnt1) := by show _ < _; rw [HCN.out]; exact HCr.out
          clear hs1 hlow hnum hln hle
          go_wp2
          refine wp_region_quiet_lit (by kernel_rfl) (by kernel_rfl) ?_
          ((repeat (go_big_quiet_step (fail))); refine wpQuiet_nil ?_; rintro _ ⟨nq, rfl⟩)
          have HS4 := Lib.hid (HSr.out.below (below_draws wr wr.heap.size nq))
          have HO4 : Hid (Only (D.hot C) w (wr.drewN nq)) := HOr.out.trans (Only.of_below (below_draws _ _ _))
          go_wp2
          refine bodyPost_ret (results_none rfl _ _ _) rfl ?_
          exact ⟨t1, F1, cnt1, vs1, stk1, rfl, HS4.out, HRr.out, HCC.out, HP.out, HO4.out⟩
        · have hle2 : (F1 .idx s : Int) ≤ (F1 .low s : Int) := by omega
          have hle3 : decide (F1 .low s < F1 .idx s) = false := decide_eq_false hle
          have HP : Hid (TPost (EdS (tgN nx) (SetM D.A.n D.A.k st D.num)) t (t1.pop t s) s G) := HMf.out.close (fun _ h => h) (by omega)
          have HCC : Hid (t.cnt < cnt1) := by show _ < _; rw [HCN.out]; exact HCr.out
          obtain ⟨r, hr⟩ := HMf.out.sk
          have hsk1 : stk1 = stk ++ s :: r := by rw [← HRr.out.sk, hr, HSK.out]
          have hnd : stk1.Nodup := by rw [← HRr.out.sk]; exact HMf.out.inv.nd
          have HSK1 := Lib.hid hsk1
          have HND := Lib.hid hnd
          have HST : Hid (∀ z ∈ stk1, z < D.A.n) := fun z hz => HX.out.us (HRr.out.un z ((HMf.out.inv.st z).1 (by rw [HRr.out.sk]; exact hz)).1)
          have hsl : stk1.length ≤ 3000 := by have h1 := ndl_len hnd HST.out; omega
          have hl1 : stk1.length = stk.length + (r.length + 1) := by rw [hsk1]; simp
          have HL1 := Lib.hid hl1
          have HRp : Hid (Rp D.A.n (UsM nx (SetM D.A.n D.A.k st D.num)) (t1.pop t s) (popF F1 (s :: r) (F1 .idx s)) cnt1 stk) := HRr.out.popV HMf.out.inv HSK.out hsk1 HUS.out
          obtain ⟨gS, capS, hvs1, -, -⟩ := HSr.out.o.row (by rw [castL_len]; omega)
          rw [castL_len] at hvs1
          subst hvs1
          have hcap := (HSr.out.o.capL)
          have HCAP : Hid (stk1.length ≤ capS) := hcap.1
          clear hs1 hlow hnum hln hle hr hsk1 hnd hl1 hcap
          go_wp2
          refine wp_region_quiet_lit (by kernel_rfl) (by kernel_rfl) ?_
          ((repeat (go_big_quiet_step (fail))); refine wpQuiet_nil ?_; rintro _ ⟨nq, rfl⟩)
          have HS4 := Lib.hid (HSr.out.below (below_draws wr wr.heap.size nq))
          have HO4 : Hid (Only (D.hot C) w (wr.drewN nq)) := HOr.out.trans (Only.of_below (below_draws _ _ _))
          clear f1 g6 g7 xi xl HSr HOr
          generalize wr.drewN nq = w4 at *
          go_wp2
          have HXI : Hid (∃ xi, F1 .idx s = xi) := ⟨_, rfl⟩
          obtain ⟨xi, hxi⟩ := HXI.out
          rw [hxi] at HRp
          have HXi := Lib.hid hxi
          clear hxi HXI
          have HSZ : Hid ((-1 : Int) = (s : Int) ↔ stk1.length = stk.length) := by have := HL1.out; show _ ↔ _; omega
          have HS5 : Hid (VS D C w0 w4 nx st (popF F1 (stk1.drop stk1.length) xi) cnt1 (.slice (some ⟨gS, 0, none⟩) stk1.length capS) (stk1.take stk1.length)) := by
            show VS _ _ _ _ _ _ _ _ _ _
            rw [List.drop_length, popF_nil, List.take_length]
            exact HS4.out
          have hl0 : stk.length ≤ stk1.length := by have := HL1.out; omega
          clear HS4
          go_loopg [9] stk1.length (fun gh v wr => ∃ (j : Nat) (lz : Int), gh = j ∧ v = .int .i64 lz ∧ stk.length ≤ j ∧ j ≤ stk1.length ∧ Hid (lz = (s : Int) ↔ j = stk.length) ∧ Hid (VS D C w0 wr nx st (popF F1 (stk1.drop j) xi) cnt1 (.slice (some ⟨gS, 0, none⟩) j capS) (stk1.take j)) ∧ Hid (Only (D.hot C) w wr))
          case atStart => exact ⟨stk1.length, -1, rfl, rfl, hl0, Nat.le_refl _, HSZ, HS5, HO4⟩
          case round => as_aux_lemma =>
            clear HS5 HO4
            obtain ⟨j, lz, hgj, rfl, hj0, hj1, HLZ, HSj, HOj⟩ := hrel
            have HGJ := Lib.hid hgj
            clear hgj
            by_cases hjl : j = stk.length
            · have hz : (lz != (s : Int)) = false := by simp [HLZ.out.2 hjl]
              have HSf : Hid (VS D C w0 wr nx st (popF F1 (s :: r) xi) cnt1 (.slice (some ⟨gS, 0, none⟩) j capS) stk) := by
                have h := HSj.out
                rw [hjl, HSK1.out, List.drop_left, List.take_left] at h
                rw [hjl]; exact h
              clear hjl
              go_wp2
              refine bodyPost_ret (results_none rfl _ _ _) rfl ?_
              exact ⟨t1.pop t s, _, cnt1, _, stk, rfl, HSf.out, HRp.out, HCC.out, HP.out, HOj.out⟩
            · have hz : (lz != (s : Int)) = true := by
                simp only [bne_iff_ne, ne_eq]
                exact fun k => hjl (HLZ.out.1 k)
              obtain ⟨j, rfl⟩ : ∃ q, j = q + 1 := ⟨j - 1, by omega⟩
              have hjs : j < stk1.length := by omega
              have HDr : Hid (stk1.drop j = stk1.getD j 0 :: stk1.drop (j + 1)) := by show _ = _; rw [getD_lt _ _ _ hjs]; exact List.drop_eq_getElem_cons hjs
              have HTk : Hid ((stk1.take (j + 1)).take j = stk1.take j) := by show _ = _; rw [List.take_take, Nat.min_eq_left (by omega)]
              have hun : stk1.getD j 0 < D.A.n := HST.out _ (by rw [getD_lt _ _ _ hjs]; exact List.getElem_mem hjs)
              have HLn : Hid (((stk1.getD j 0 : Nat) : Int) = (s : Int) ↔ j = stk.length) := by
                have e : stk1.getD stk.length 0 = s := by rw [HSK1.out]; simp [List.getD]
                constructor
                · intro h
                  have h2 : stk1.getD j 0 = s := by omega
                  have hlt2 : stk.length < stk1.length := by have := HL1.out; omega
                  rw [← e, getD_lt _ _ _ hjs, getD_lt _ _ _ hlt2] at h2
                  exact (List.getElem_inj HND.out).1 h2
                · intro h
                  rw [h, e]
              have hlen : (stk1.take (j + 1)).length = j + 1 := by rw [List.length_take]; omega
              have hoj := HSj.out.o
              have hel : wr.cell? ⟨gS, j, none⟩ = some (.int .i64 ((stk1.getD j 0 : Nat) : Int)) := by
                have h := hoj.at' (by rw [castL_len, hlen]) j (by rw [castL_len, hlen]; omega)
                rw [h, ← getD_lt _ 0 _ (by rw [castL_len, hlen]; omega), castL_get (by rw [hlen]; omega)]
                simp [List.getD, hjs]
              have hok : OI wr C (.slice (some ⟨gS, 0, none⟩) j capS) (castL ((stk1.take (j + 1)).take j)) := by
                rw [castL_take]
                exact OI.cut hoj (by rw [castL_len, hlen]; omega)
              have HSn := Lib.hid (HSj.out.pop HD.out hok)
              have HOn : Hid (Only (D.hot C) w (wr.setCell ⟨D.zs, 0, none⟩ (.slice (some ⟨gS, 0, none⟩) j capS))) := HOj.out.trans (Only.set _ _ _ (hot_zs D C))
              have z1 := cell_of_row _ _ 0 _ _ _ HSj.out.s
              have z2 := frozen_of_row _ _ 0 _ _ HSj.out.s
              have hc1 := HCAP.out
              have hc2 : j ≤ capS := by omega
              generalize stk1.getD j 0 = u at *
              clear hjl hlen hoj hok
              go_upto_region 17 with (fail)
              rw [HTk.out] at HSn
              generalize wr.setCell ⟨D.zs, 0, none⟩ (.slice (some ⟨gS, 0, none⟩) j capS) = w6 at *
              clear z1 z2 hel HSj HOj HTk
              have f1 := cell_of_row _ _ 0 _ _ _ HSn.out.f
              have g5 := HSn.out.m.c5
              have g6 := HSn.out.m.c6
              have x6 := HSn.out.m.arr .idx hsn
              rw [popF_ne _ _ _ (by decide), HXi.out] at x6
              go_still_tail 13, (by kernel_rfl)
              change wpList _ _ _ _ _ w6.drew
              have HS7 := Lib.hid (HSn.out.below (Below.drew (Below.refl _ _)))
              have HO7 : Hid (Only (D.hot C) w w6.drew) := HOn.out.trans (Only.of_below (Below.drew (Below.refl _ _)))
              clear f1 g5 g6 x6 HSn HOn
              generalize w6.drew = w7 at *
              have x5 := HS7.out.m.arr .prt hun
              have z5 := (HS7.out.m.a .prt).fz u
              have HS8 := Lib.hid (HS7.out.put HD.out .prt u xi)
              rw [popF_up, ← HDr.out] at HS8
              have HO8 : Hid (Only (D.hot C) w (w7.setCell ⟨D.A.ab .prt, u, none⟩ (.int .i64 (xi : Int)))) := HO7.out.trans (Only.set _ _ _ (hot_ab D C .prt))
              have hj2 : stk.length ≤ j := by
                have h1 := HLZ.out
                simp only [bne_iff_ne, ne_eq] at hz
                have h2 : ¬ j + 1 = stk.length := fun k => hz (h1.2 k)
                omega
              clear HS7 HO7 hz
              go_wp2
              go_roundg j
              case measure => have := HGJ.out; omega
              case rel => exact ⟨j, (u : Int), rfl, rfl, hj2, by omega, HLn, HS8, HO8⟩

end Go.Proofs.Ytdkpdpcecjcmcaa
