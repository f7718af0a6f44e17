/- What attract does: it takes out what a player attracts to a target. -/
import Derived.Test.YtjhafakkadnfmaaSo4
namespace Go.Proofs.Ytjhafakkadnfmaa
open Go.RowKit

theorem liftB_get (p : List Int) (b : Bool) : ∀ (l : List Bool), (∀ x ∈ p, ∃ v : Nat, x = v ∧ v < l.length) → ∀ v : Nat, v < l.length → (liftB l p b).getD v false = if (v : Int) ∈ p then b else l.getD v false := by
  induction p with
  | nil => intro l _ v _; simp [liftB]
  | cons x p ih =>
    intro l hp v hv
    obtain ⟨y, rfl, hy⟩ := hp x (by simp)
    show (liftB (l.set y b) p b).getD v false = _
    rw [ih (l.set y b) (fun x hx => by rw [List.length_set]; exact hp x (by simp [hx])) v (by rw [List.length_set]; exact hv), getD_setB _ _ _ _ hy]
    by_cases h1 : (v : Int) ∈ p
    · rw [if_pos h1, if_pos (by simp [h1])]
    · rw [if_neg h1]
      by_cases h2 : y = v
      · subst h2; simp
      · rw [if_neg h2, if_neg]
        simp only [List.mem_cons, not_or]
        exact ⟨by omega, h1⟩
theorem liftI_get (p : List Int) (b : Int) : ∀ (l : List Int), (∀ x ∈ p, ∃ v : Nat, x = v ∧ v < l.length) → ∀ v : Nat, v < l.length → (liftI l p b).getD v 0 = if (v : Int) ∈ p then b else l.getD v 0 := by
  induction p with
  | nil => intro l _ v _; simp [liftI]
  | cons x p ih =>
    intro l hp v hv
    obtain ⟨y, rfl, hy⟩ := hp x (by simp)
    show (liftI (l.set y b) p b).getD v 0 = _
    rw [ih (l.set y b) (fun x hx => by rw [List.length_set]; exact hp x (by simp [hx])) v (by rw [List.length_set]; exact hv), getD_setI _ _ _ _ hy]
    by_cases h1 : (v : Int) ∈ p
    · rw [if_pos h1, if_pos (by simp [h1])]
    · rw [if_neg h1]
      by_cases h2 : y = v
      · subst h2; simp
      · rw [if_neg h2, if_neg]
        simp only [List.mem_cons, not_or]
        exact ⟨by omega, h1⟩

section
variable {g : Gm} {p : Int} {n : Nat} {s : List Bool} {t : List Int} {a : Nat} {r : List Int} {st : Wk}
theorem WInv.len (h : WInv g p n s t a r st) : st.q.length ≤ n := by
  refine Nat.le_of_not_lt fun hlt => ?_
  obtain ⟨i, j, h1, h2, h3⟩ := pigeon n (fun i => (st.q.getD i 0).toNat) fun i hi => by
    obtain ⟨v, e, hv, -⟩ := h.qr _ (get_mem (show i < st.q.length by omega))
    simp only [e, Int.toNat_natCast]; exact hv
  obtain ⟨v, e, -, -⟩ := h.qr _ (get_mem (show i < st.q.length by omega))
  obtain ⟨v', e', -, -⟩ := h.qr _ (get_mem (show j < st.q.length by omega))
  simp only [e, e', Int.toNat_natCast] at h3
  have := nodup_get h.nd (show i < st.q.length by omega) (show j < st.q.length by omega) (by rw [e, e', h3])
  omega
theorem WInv.pos {u v : Nat} (h : WInv g p n s t a r st) (ha : a < st.q.length) (hu : st.q.getD a 0 = u) (hv : v < n) (hc : (r ++ [(v : Int)]).count (v : Int) ≤ (g.succ.getD v []).count (u : Int)) : 1 ≤ st.lf.getD v 0 ∧ st.lf.getD v 0 ≤ ((g.succ.getD v []).length : Int) := by
  have huq : (u : Int) ∈ st.q := by rw [← hu]; exact get_mem ha
  obtain ⟨u', e, hun, hus⟩ := h.qr _ huq
  obtain rfl : u = u' := by omega
  have hut : (u : Int) ∉ st.q.take a := fun hm => by
    obtain ⟨j, j1, j2, e⟩ := take_get hm
    have := nodup_get h.nd j2 ha (by rw [e, hu])
    omega
  have hPu : (inS s (u : Int) && decide ((u : Int) ∉ st.q.take a)) = true := by rw [show inS s (u : Int) = true from hus]; simp [hut]
  have hle := countOne (P := fun x => inS s x && decide (x ∉ st.q.take a)) hPu (g.succ.getD v [])
  have hlv := h.lf v hv
  have hcs : (r ++ [(v : Int)]).count (v : Int) = r.count (v : Int) + 1 := by rw [count_snoc]; simp
  have hcl := List.countP_le_length (p := fun x => inS s x && decide (x ∉ st.q.take a)) (l := g.succ.getD v [])
  omega
end

/-- What attract leaves. -/
def Attr1 (w : World) (D : Ad) (g : Gm) (n : Nat) (p : Int) (al : List Bool) (t wn : List Int) (e : Ending) (w' : World) : Prop :=
  ∃ vq st, e = .returned vq ∧ OI w' w.heap.size vq st.q ∧ OB w' 0 (.slice (some ⟨D.ba, 0, none⟩) n n) st.al ∧ OI w' 0 (.slice (some ⟨D.bl, 0, none⟩) n n) st.lf ∧ OI w' 0 (.slice (some ⟨D.bw, 0, none⟩) n n) wn ∧ Only D.hot w w' ∧ WInv g p n al t st.q.length [] st

/-- What is known of a game and its rows. -/
structure GOK (g : Gm) (n : Nat) (bf : List (List Int)) : Prop where
  n3 : n ≤ 3000
  on : g.owner.length = n
  pn : g.prio.length = n
  bn : bf.length = n
  bo : BfOK g n bf
  bs : ∀ u, (bf.getD u []).length ≤ 3000000
  sl : ∀ v, (g.succ.getD v []).length ≤ 1000
  rg : ∀ i, i < n → ∀ x ∈ g.succ.getD i [], ∃ v : Nat, x = v ∧ v < n
  ow : ∀ i, i < n → g.owner.getD i 0 = 0 ∨ g.owner.getD i 0 = 1
  pr : ∀ i, i < n → 0 ≤ g.prio.getD i 0 ∧ g.prio.getD i 0 ≤ 30000

/-- The counts of the successors that are alive. -/
def LfOK (g : Gm) (n : Nat) (al : List Bool) (lf : List Int) : Prop := ∀ v, v < n → lf.getD v 0 = ((g.succ.getD v []).countP (inS al) : Nat)
def TotB (g : Gm) (n : Nat) (al : List Bool) : Prop := ∀ v, v < n → al.getD v false = true → ∃ x ∈ g.succ.getD v [], inS al x = true

set_option maxRecDepth 100000 in
set_option maxHeartbeats 4000000 in
theorem attract_c (w : World) (D : Ad) (g : Gm) (n : Nat) (bf : List (List Int)) (al : List Bool) (lf wn : List Int) (p : Int) (vt : Value) (t : List Int) (hS : Sv w.heap.size w D g n bf al lf wn) (hG : GOK g n bf) (ht : IsInts w vt t)
    (hr : ∀ x ∈ t, ∃ v : Nat, x = v ∧ v < n ∧ al.getD v false = true) (hnd : t.Nodup) (htl : t.length ≤ 3000) (hlf : LfOK g n al lf) (htot : TotB g n al) :
    Calls Try.prog 46 #[.pointer (some ⟨D.sp, 0, none⟩), .int .i64 p, vt] w (Attr1 w D g n p al t wn) := by
  obtain ⟨aot, capt, bt, ot, rfl, -⟩ := id ht.1
  have HT := Lib.hid ht
  have HS := Lib.hid hS
  have HGO := Lib.hid hG
  have HR := Lib.hid hr
  have HTI : Hid (∀ x ∈ t, I64 x) := ht.2
  have HI : Hid (WInv g p n al t 0 [] ⟨t, liftB al t false, lf⟩) := by
    refine WInv.start (by rw [liftB_len]; exact hS.la) hS.ll (fun v hv => ?_) hr hnd hlf htot
    rw [liftB_get _ _ _ (fun x hx => by obtain ⟨v, h1, h2, -⟩ := hr x hx; exact ⟨v, h1, by rw [hS.la]; exact h2⟩) v (by rw [hS.la]; exact hv)]
    by_cases h : (v : Int) ∈ t <;> simp [h]
  have hn3 := hG.n3
  clear ht hS hG hr hnd hlf htot
  go_enter Try.func46, Try.ntmps46
  go_upto_region 2 with (at_builtin; refine app_set rfl _ _ rfl w.heap.size _ _ [] t (OI_nil _ _) rfl HT.out rfl (by rw [List.length_nil]; omega) (Nat.le_refl _) ?_; intro v1 w1 hown1 hg1 hmv1; rw [List.nil_append] at hown1; have HO1 := Lib.hid hown1; have HW1 : Hid (Below w.heap.size w w1) := (Below.refl _ _).grown hg1 (Nat.le_refl _) (fun k hk => by cases hk); clear hown1 hg1 hmv1)
  have HS1 := Lib.hid (HS.out.below HW1.out)
  have c4 := HS1.out.field 4 rfl
  obtain ⟨ao1, cap1, rfl⟩ := HO1.out.slice
  have hhot := HS.out.hb
  go_wp2_with fail
  refine (liftB_c w1 D.ba n _ al t false HS1.out.a HS1.out.la (fun W hW => (HO1.out.only hW fun k hk e => by have := HO1.out.ge k hk; omega).is (by unfold maxN; omega) HTI.out) (fun x hx => by obtain ⟨v, h1, h2, -⟩ := HR.out x hx; exact ⟨v, h1, h2⟩)).mono ?_
  rintro e w2 ⟨rfl, hA2, hO2⟩
  have HS2 : Hid (Sv w.heap.size w2 D g n bf (liftB al t false) lf wn) := HS1.out.toA hO2 hA2 (by rw [liftB_len]; exact HS1.out.la)
  have HQ2 : Hid (OI w2 w.heap.size (.slice ao1 t.length cap1) t) := HO1.out.only hO2 fun k hk e => by have := HO1.out.ge k hk; omega
  have HH2 : Hid (Only D.hot w w2) := (Only.of_below HW1.out).trans (Only.one hO2 (.inl rfl))
  clear hA2 hO2 c4
  go_wp2
  go_loopg [7, 8] n (fun gh vq at_ wr => ∃ (a : Nat) (st : Wk), gh = n - a ∧ at_ = .int .i64 a ∧ a ≤ st.q.length ∧ Hid (WInv g p n al t a [] st) ∧ Hid (OI wr w.heap.size vq st.q) ∧ Hid (Sv w.heap.size wr D g n bf st.al st.lf wn) ∧ Hid (Only D.hot w wr))
  case atStart => exact ⟨0, _, by omega, rfl, by omega, HI, HQ2, HS2, HH2⟩
  case round =>
    clear HI HQ2 HS2 HH2 HO1 HW1 HS1 HT HR HTI htl
    obtain ⟨a, st, rfl, rfl, ha, HI, HQ, HSv, HH⟩ := hrel
    obtain ⟨aq, cq, rfl⟩ := HQ.out.slice
    have hql := HI.out.len
    by_cases hlt : a < st.q.length
    · obtain ⟨u, hu, hun, hus⟩ := HI.out.qr _ (get_mem hlt)
      obtain ⟨gq, cq', hvq, -, -⟩ := HQ.out.row (by omega)
      obtain ⟨rfl, rfl⟩ : aq = some ⟨gq, 0, none⟩ ∧ cq = cq' := by simpa using hvq
      have e1 := HQ.out.at' rfl a hlt
      rw [← getD_lt _ 0 _ hlt, hu] at e1
      have hF := HSv.out.fx wr (Only.refl _ _)
      have c3 := HSv.out.field 3 rfl
      obtain ⟨ab, cb, bb, ob, hvb, gB⟩ := hF.be
      obtain ⟨⟨ar, cr, br, or_, hVr, gR⟩, -⟩ := hF.br u hun
      obtain rfl := gB.ad (by omega)
      have e2 := gB.el u hun
      rw [hvb] at c3
      rw [hVr] at e2
      have hnr := gR.nb
      have hrow : Hid (∀ k, k < (bf.getD u []).length → ∃ v : Nat, (bf.getD u []).getD k 0 = v ∧ v < n) := fun k hk => HGO.out.bo.rg u _ (get_mem hk)
      have HAll := Lib.hid (fun k hk => HI.out.all hlt hu (HGO.out.bo.rg u) (fun v hv => HGO.out.bo.ct u v hun hv) k hk)
      have HCt := Lib.hid (fun v hv => HGO.out.bo.ct u v hun hv)
      have HVr := Lib.hid hVr
      have hlen3 := HGO.out.bs u
      clear hF gB gR hVr hvb hvq
      generalize hre : bf.getD u [] = row at *
      have HRe := Lib.hid hre
      clear hre
      go_upto_region 6 with (fail)
      refine wp_region_quiet_lit (by kernel_rfl) (by kernel_rfl) ?_
      ((repeat (go_big_quiet_step (fail))); refine wpQuiet_nil ?_; rintro _ ⟨nq, rfl⟩)
      have HSv0 := Lib.hid (HSv.out.below (below_draws wr wr.heap.size nq))
      have HQ0 := Lib.hid (HQ.out.below (below_draws wr wr.heap.size nq))
      have HH0 : Hid (Only D.hot w (wr.drewN nq)) := HH.out.trans (Only.of_below (below_draws wr wr.heap.size nq))
      clear HSv HQ HH e1 e2 c3
      generalize wr.drewN nq = w4 at *
      go_wp2
      go_loopg [7, 10, 36] row.length (fun gh vq _ i wx => ∃ k : Nat, gh = row.length - k ∧ i = .int .i64 k ∧ k ≤ row.length ∧ Hid (OI wx w.heap.size vq (wkAll g p st (row.take k)).q) ∧ Hid (Sv w.heap.size wx D g n bf (wkAll g p st (row.take k)).al (wkAll g p st (row.take k)).lf wn) ∧ Hid (Only D.hot w wx))
      case atStart => exact ⟨0, by omega, rfl, by omega, HQ0, HSv0, HH0⟩
      case round =>
        clear HSv0 HQ0 HH0
        obtain ⟨k, rfl, rfl, hk, HQ, HSv, HH⟩ := hrel
        by_cases hlk : k < row.length
        · have hst := HAll.out k hk
          obtain ⟨v, hv, hvn⟩ := hrow.out k hlk
          have hNx : Hid (wkAll g p st (row.take (k + 1)) = wkStep g p (wkAll g p st (row.take k)) v) := by
            show _ = _
            rw [List.take_succ_eq_append_getElem hlk, wkAll_snoc, ← getD_lt _ 0 _ hlk, hv]
          have hcnt : (row.take k ++ [(v : Int)]).count (v : Int) ≤ (g.succ.getD v []).count (u : Int) := by
            rw [← HCt.out v hvn, ← hv, getD_lt _ 0 _ hlk, ← List.take_succ_eq_append_getElem hlk]
            exact List.Sublist.count_le _ (List.take_sublist _ _)
          obtain ⟨hI, eq, hq⟩ := hst
          have ha' : a < (wkAll g p st (row.take k)).q.length := by rw [hq, List.length_append]; omega
          have hu' : (wkAll g p st (row.take k)).q.getD a 0 = u := by rw [hq, ← hu]; simp [List.getD, List.getElem?_append_left hlt]
          obtain ⟨hx1, hx2⟩ := hI.pos ha' hu' hvn hcnt
          have hsl := HGO.out.sl v
          have hql2 := hI.len
          have hF := HSv.out.fx wr (Only.refl _ _)
          obtain ⟨⟨ar', cr', br', or', hVr', gR⟩, -⟩ := hF.br u hun
          rw [HRe.out] at hVr' gR
          obtain ⟨rfl, rfl⟩ : ar = ar' ∧ cr = cr' := by simpa using HVr.out.symm.trans hVr'
          obtain rfl := gR.ad (by omega)
          have e3 := gR.el k hlk
          unfold ivF at e3
          rw [hv] at e3
          clear hF gR hVr' hcnt ha' hu' hq
          have HIk := Lib.hid hI
          clear hI
          generalize wkAll g p st (row.take k) = sk at *
          generalize hx : sk.lf.getD v 0 = x at *
          have HX := Lib.hid hx
          clear hx
          obtain ⟨aq, cq, hvq⟩ := HQ.out.slice
          subst hvq
          have c5 := HSv.out.field 5 rfl
          obtain ⟨l1, l2⟩ := HSv.out.cellL hvn
          rw [HX.out] at l1
          have HS1 := Lib.hid (HSv.out.setL v (x - 1))
          have HH1 : Hid (Only D.hot w (wr.setCell ⟨D.bl, v, none⟩ (.int .i64 (x - 1)))) := HH.out.trans (Only.one (Only.set _ _ _ rfl) (.inr (.inl rfl)))
          have HQ1 : Hid (OI (wr.setCell ⟨D.bl, v, none⟩ (.int .i64 (x - 1))) w.heap.size (.slice aq sk.q.length cq) sk.q) := HQ.out.only (Only.set (S := fun k => k = D.bl) _ _ _ rfl) fun k hk e => by have := HQ.out.ge k hk; omega
          have c4 := HS1.out.field 4 rfl
          have c6 := HS1.out.field 5 rfl
          have c0 := HS1.out.field 0 rfl
          obtain ⟨a1, a2⟩ := HS1.out.cellA hvn
          obtain ⟨m1, -⟩ := HS1.out.cellL hvn
          rw [getD_setI _ _ _ _ (by rw [HSv.out.ll]; exact hvn), if_pos rfl] at m1
          have hF1 := HS1.out.fx _ (Only.refl _ _)
          obtain ⟨⟨ao, co, bo, oo, hv0, gO⟩, -⟩ := hF1.ow
          have hon := HGO.out.on
          have hno := gO.nb
          obtain rfl := gO.ad (by omega)
          have e4 := gO.el v (by omega)
          unfold ivF at e4
          rw [hv0, hon] at c0
          have hs1 : IntKind.i64.wrap (x - 1) = x - 1 := IntWalk.i64_in _ ⟨by omega, by omega⟩
          clear hF1 gO hv0 hon
          have HNx := hNx
          rw [wkStep_nat, HX.out] at HNx
          clear hNx
          by_cases hal : sk.al.getD v false = true
          · rw [hal] at a1
            by_cases hor : g.owner.getD v 0 = p ∨ x - 1 = 0
            · have hcond : (sk.al.getD v false && (decide (g.owner.getD v 0 = p) || decide (x - 1 = 0))) = true := by rw [hal]; simpa using hor
              have HNy : Hid (wkAll g p st (row.take (k + 1)) = ⟨sk.q ++ [(v : Int)], sk.al.set v false, sk.lf.set v (x - 1)⟩) := by show _ = _; rw [HNx.out, if_pos hcond]
              have HS2 := Lib.hid (HS1.out.setA v false)
              have HH2 : Hid (Only D.hot w ((wr.setCell ⟨D.bl, v, none⟩ (.int .i64 (x - 1))).setCell ⟨D.ba, v, none⟩ (.bool false))) := HH1.out.trans (Only.one (Only.set _ _ _ rfl) (.inl rfl))
              have HQ2 : Hid (OI ((wr.setCell ⟨D.bl, v, none⟩ (.int .i64 (x - 1))).setCell ⟨D.ba, v, none⟩ (.bool false)) w.heap.size (.slice aq sk.q.length cq) sk.q) := HQ1.out.only (Only.set (S := fun k => k = D.ba) _ _ _ rfl) fun k hk e => by have := HQ1.out.ge k hk; omega
              have hz2 := HH2.out.size
              clear hcond HNx HIk HH1 HQ1 HS1 HSv HH HQ hal
              generalize g.owner.getD v 0 = ov at *
              by_cases ho : ov = p
              · clear hor
                go_wp2_with (at_builtin; refine app_pos rfl _ _ (v : Int) rfl w.heap.size _ _ HQ2.out rfl _ (by simp) rfl (by omega) hz2 ?_; intro v' w' hown' hg hmv; have HO4 := Lib.hid hown'; have HS4 : Hid (Sv w.heap.size w' D g n bf (sk.al.set v false) (sk.lf.set v (x - 1)) wn) := HS2.out.above ((Only.of_grown hg).mono fun k _ hk => HQ2.out.ge k hk); have HH4 : Hid (Only D.hot w w') := HH2.out.grow hg (fun k hk => HQ2.out.ge k hk); clear hown' hg hmv)
                go_roundg (row.length - (k + 1))
                case rel => exact ⟨k + 1, rfl, by go_num, by omega, by rw [HNy.out]; exact HO4, by rw [HNy.out]; exact HS4, HH4⟩
                case measure => omega
              · have hz := hor.resolve_left ho
                have hzb : (x - 1 == 0) = true := by simp [hz]
                have hob : (ov == p) = false := beq_eq_false_iff_ne.2 ho
                clear hor hz
                go_wp2_with (at_builtin; refine app_pos rfl _ _ (v : Int) rfl w.heap.size _ _ HQ2.out rfl _ (by simp) rfl (by omega) hz2 ?_; intro v' w' hown' hg hmv; have HO4 := Lib.hid hown'; have HS4 : Hid (Sv w.heap.size w' D g n bf (sk.al.set v false) (sk.lf.set v (x - 1)) wn) := HS2.out.above ((Only.of_grown hg).mono fun k _ hk => HQ2.out.ge k hk); have HH4 : Hid (Only D.hot w w') := HH2.out.grow hg (fun k hk => HQ2.out.ge k hk); clear hown' hg hmv)
                go_roundg (row.length - (k + 1))
                case rel => exact ⟨k + 1, rfl, by go_num, by omega, by rw [HNy.out]; exact HO4, by rw [HNy.out]; exact HS4, HH4⟩
                case measure => omega
            · have hcond : ¬ (sk.al.getD v false && (decide (g.owner.getD v 0 = p) || decide (x - 1 = 0))) = true := by rw [hal]; simpa using hor
              have HNy : Hid (wkAll g p st (row.take (k + 1)) = ⟨sk.q, sk.al, sk.lf.set v (x - 1)⟩) := by show _ = _; rw [HNx.out, if_neg hcond]
              have ho : ¬ g.owner.getD v 0 = p := fun h => hor (.inl h)
              have hz : ¬ x - 1 = 0 := fun h => hor (.inr h)
              have hzb : (x - 1 == 0) = false := beq_eq_false_iff_ne.2 hz
              have hob : (g.owner.getD v 0 == p) = false := beq_eq_false_iff_ne.2 ho
              clear hcond HNx HIk HSv HH HQ hal hor
              generalize g.owner.getD v 0 = ov at *
              go_wp2
              go_roundg (row.length - (k + 1))
              case rel => exact ⟨k + 1, rfl, by go_num, by omega, by rw [HNy.out]; exact HQ1, by rw [HNy.out]; exact HS1, HH1⟩
              case measure => omega
          · rw [Bool.not_eq_true] at hal
            rw [hal] at a1
            have hcond : ¬ (sk.al.getD v false && (decide (g.owner.getD v 0 = p) || decide (x - 1 = 0))) = true := by rw [hal]; simp
            have HNy : Hid (wkAll g p st (row.take (k + 1)) = ⟨sk.q, sk.al, sk.lf.set v (x - 1)⟩) := by show _ = _; rw [HNx.out, if_neg hcond]
            clear hcond HNx HIk HSv HH HQ hal
            generalize g.owner.getD v 0 = ov at *
            go_wp2
            go_roundg (row.length - (k + 1))
            case rel => exact ⟨k + 1, rfl, by go_num, by omega, by rw [HNy.out]; exact HQ1, by rw [HNy.out]; exact HS1, HH1⟩
            case measure => omega
        · obtain rfl : k = row.length := by omega
          have hst := (HAll.out row.length (Nat.le_refl _)).1
          have hq := (HAll.out row.length (Nat.le_refl _)).2
          rw [List.take_length] at hst hq HQ HSv
          obtain ⟨eq, hq⟩ := hq
          have ha' : a < (wkAll g p st row).q.length := by rw [hq, List.length_append]; omega
          have hu' : (wkAll g p st row).q.getD a 0 = u := by rw [hq, ← hu]; simp [List.getD, List.getElem?_append_left hlt]
          have HIn := Lib.hid (hst.next ha' hu' (fun v hv => HCt.out v hv))
          have hln := hst.len
          have hs9 : IntKind.i64.wrap ((a : Int) + 1) = (a : Int) + 1 := IntWalk.i64_in _ ⟨by omega, by omega⟩
          clear hst hq hu' hu
          go_wp2
          go_roundg (n - (a + 1))
          case rel => exact ⟨a + 1, _, rfl, by go_num, by omega, HIn, HQ, HSv, HH⟩
          case measure => omega
    · obtain rfl : a = st.q.length := by omega
      go_wp2
      go_ret
      exact ⟨_, st, rfl, HQ.out, HSv.out.a, HSv.out.l, HSv.out.w, HH.out, HI.out⟩

end Go.Proofs.Ytjhafakkadnfmaa
