/- What the recursive function literal of run does: it solves a part. -/
import Derived.Test.YtjhafakkadnfmaaSo10
import Derived.StillTailTactics
namespace Go.Proofs.Ytjhafakkadnfmaa
open Go.RowKit

/-- The captured boxes. -/
def Cx (B : Nat) (w : World) (D : Ad) (c1 c2 c3 : Nat) : Prop := ∀ W, Only (fun k => D.hot k ∨ B ≤ k) w W →
  W.cell? ⟨c1, 0, none⟩ = some (.pointer (some ⟨D.sp, 0, none⟩)) ∧ W.cell? ⟨c2, 0, none⟩ = some (.func (.func 43) #[] #[.pointer (some ⟨c1, 0, none⟩)]) ∧
    W.cell? ⟨c3, 0, none⟩ = some (.func (.func 44) #[] #[.pointer (some ⟨c1, 0, none⟩), .pointer (some ⟨c2, 0, none⟩), .pointer (some ⟨c3, 0, none⟩)])
theorem Cx.step {w W : World} {D : Ad} {B c1 c2 c3 : Nat} (h : Cx B w D c1 c2 c3) (ho : Only (fun k => D.hot k ∨ B ≤ k) w W) {B' : Nat} (hB : B ≤ B') : Cx B' W D c1 c2 c3 :=
  fun W' h' => h W' (ho.trans (h'.mono fun _ _ hk => hk.imp_right fun h => Nat.le_trans hB h))

/-- What solving a part leaves. -/
def Part1 (w : World) (D : Ad) (g : Gm) (n : Nat) (al : List Bool) (lf wn : List Int) (e : Ending) (w' : World) : Prop :=
  e = .returned (.tuple #[]) ∧ ∃ wn', OB w' 0 (.slice (some ⟨D.ba, 0, none⟩) n n) al ∧ OI w' 0 (.slice (some ⟨D.bl, 0, none⟩) n n) lf ∧ OI w' 0 (.slice (some ⟨D.bw, 0, none⟩) n n) wn' ∧ wn'.length = n ∧ Only D.hot w w' ∧
    Sol g (setOf al) (fun i => wn'.getD i 0) ∧ ∀ v, v < n → al.getD v false = false → wn'.getD v 0 = wn.getD v 0

theorem LfOK.bound {g : Gm} {n : Nat} {bf : List (List Int)} {al : List Bool} {lf : List Int} (h : LfOK g n al lf) (hG : GOK g n bf) : ∀ v, v < n → 0 ≤ lf.getD v 0 ∧ lf.getD v 0 ≤ 1000 := fun v hv => by
  rw [h v hv]
  have h1 := List.countP_le_length (p := inS al) (l := g.succ.getD v [])
  have h2 := hG.sl v
  omega
theorem mem_I64 {n : Nat} {l : List Int} (hn : n ≤ 3000) (h : ∀ x ∈ l, ∃ v : Nat, x = v ∧ v < n) : ∀ x ∈ l, I64 x := fun x hx => by
  obtain ⟨v, rfl, hv⟩ := h x hx
  unfold I64; omega

theorem pigeonLen {n : Nat} {al : List Bool} {r : List Int} (h : ∀ x ∈ r, ∃ v : Nat, x = v ∧ v < n ∧ al.getD v false = true) (hn : r.Nodup) : r.length ≤ n := by
  refine Nat.le_of_not_lt fun hlt => ?_
  obtain ⟨i, j, h1, h2, h3⟩ := pigeon n (fun i => (r.getD i 0).toNat) fun i hi => by
    obtain ⟨v, e, hv, -⟩ := h _ (get_mem (show i < r.length by omega))
    simp only [e, Int.toNat_natCast]; exact hv
  obtain ⟨v, e, -, -⟩ := h _ (get_mem (show i < r.length by omega))
  obtain ⟨v', e', -, -⟩ := h _ (get_mem (show j < r.length by omega))
  simp only [e, e', Int.toNat_natCast] at h3
  have := nodup_get hn (show i < r.length by omega) (show j < r.length by omega) (by rw [e, e', h3])
  omega

set_option maxRecDepth 100000 in
set_option maxHeartbeats 8000000 in
theorem part_c (m : Nat) : ∀ (w : World) (D : Ad) (g : Gm) (n : Nat) (bf : List (List Int)) (al : List Bool) (lf wn : List Int) (vr : Value) (r : List Int) (c1 c2 c3 : Nat), r.length < m → Sv w.heap.size w D g n bf al lf wn → GOK g n bf → Kp w.heap.size w D vr r →
    Mem n al r → LfOK g n al lf → TotB g n al → Cx w.heap.size w D c1 c2 c3 →
    Calls Try.prog 44 #[vr, .pointer (some ⟨c1, 0, none⟩), .pointer (some ⟨c2, 0, none⟩), .pointer (some ⟨c3, 0, none⟩)] w (Part1 w D g n al lf wn) := by
  induction m with
  | zero => intro _ _ _ _ _ _ _ _ _ _ _ _ _ h; exact absurd h (by omega)
  | succ m ih =>
  intro w D g n bf al lf wn vr r c1 c2 c3 hrm hS hG hr hM hlf htot hC
  have hmx : Try.prog.follows .mixedOrders = true := by kernel_rfl
  have HIH := Lib.hid ih
  have HGO := Lib.hid hG
  have HC := Lib.hid hC
  have hn3 := hG.n3
  have hrn := hM.len
  have HPI := Lib.hid (PInv.start hS.la hM htot hS.lw)
  have HLf0 := Lib.hid hlf
  have HS := Lib.hid hS
  have HLa := Lib.hid hS.la
  have HLl := Lib.hid hS.ll
  have HKg : Hid (∀ W, Only (fun k => D.hot k ∨ Value.ownBlock (.slice none 0 0) = some k ∨ w.heap.size ≤ k) w W → IsInts W vr r) := fun W hW => hr W (hW.mono fun k _ hk => by
    rcases hk with h | h | h
    · exact .inl h
    · cases h
    · exact .inr h)
  have HHot : Hid (∀ k, D.hot k → k < w.heap.size) := hS.hot_lt
  clear ih hG hC hS hr hM hlf htot
  go_enter Try.func44, Try.ntmps44
  go_wp2
  go_loopg [0, 5] r.length (fun gh vR vg wr => ∃ (al' : List Bool) (lf' wn' R gone : List Int), gh = R.length ∧ R.length ≤ m ∧ Hid (PInv g n al wn al' R gone wn') ∧ Hid (Sv w.heap.size wr D g n bf al' lf' wn') ∧ Hid (LfOK g n al' lf') ∧ Hid (OI wr w.heap.size vg gone) ∧ Hid (Only D.hot w wr) ∧
    Hid (∀ W, Only (fun k => D.hot k ∨ vg.ownBlock = some k ∨ wr.heap.size ≤ k) wr W → IsInts W vR R))
  case atStart => exact ⟨al, lf, wn, r, [], rfl, by omega, HPI, HS, HLf0, OI_nil _ _, Only.refl _ _, HKg⟩
  case round =>
    clear HPI HS HKg
    obtain ⟨al1, lf1, wn1, R, gone, rfl, hRm, HPI, HSv, HLf, HGn, HH, HKg⟩ := hrel
    have hR0 := HKg.out wr (Only.refl _ _)
    obtain ⟨⟨aR, capR, bR, oR, hvR, gR⟩, -⟩ := id hR0
    subst hvR
    clear gR
    have HRI := Lib.hid hR0
    have hRn := HPI.out.mem.len
    obtain ⟨d1, d2, d3⟩ := HC.out wr HH.out.orB
    have hz := HH.out.size
    by_cases hlt : R.length = 0
    · have hlti : ¬ (0 : Int) < R.length := by omega
      have hRnil := List.eq_nil_of_length_eq_zero hlt
      have hgl : gone.length ≤ 3000 := Nat.le_trans (pigeonLen HPI.out.gr HPI.out.gn) hn3
      have HKgn : Hid (Kp wr.heap.size wr D u5 gone) := HGn.out.kp HHot.out (Nat.le_refl _) (by unfold maxN; omega) (mem_I64 hn3 fun x hx => by obtain ⟨v, e, h, -⟩ := HPI.out.gr x hx; exact ⟨v, e, h⟩)
      have HEnd : Hid (Sol g (setOf al) (fun i => wn1.getD i 0)) := by
        have := HPI.out
        rw [hRnil] at this
        exact this.done
      clear hlt hRnil
      go_wp2_with fail
      refine (revive_c wr D g n bf al1 lf1 wn1 _ gone (HSv.out.up hz) HGO.out HKgn.out (fun x hx => by obtain ⟨v, e, h, -⟩ := HPI.out.gr x hx; exact ⟨v, e, h⟩) hgl (HLf.out.bound HGO.out)).mono ?_
      rintro e wz ⟨rfl, haz, hlz, hwz, hoz⟩
      rw [revive_al HLa.out HPI.out.la HPI.out.gr HPI.out.st] at haz
      rw [revive_lf HGO.out HLl.out HSv.out.ll HPI.out.gr HPI.out.gn HPI.out.st HLf0.out HLf.out] at hlz
      have hFin := HH.out.trans hoz
      go_wp2
      go_end0
      exact ⟨rfl, wn1, haz, hlz, hwz, HSv.out.lw, hFin, HEnd.out, HPI.out.out⟩
    · have hlti : (0 : Int) < R.length := by omega
      go_wp2_with fail
      refine (least_c wr D g n bf al1 lf1 wn1 _ R (HSv.out.up hz) HGO.out HRI.out (fun x hx => by obtain ⟨v, e, h, -⟩ := HPI.out.mem.rg x hx; exact ⟨v, e, h⟩) (by omega)).mono ?_
      rintro e w1 ⟨vb, rfl, hOb, hB1⟩
      obtain ⟨aB, cB, rfl⟩ := hOb.slice
      go_upto_region 3 with (fail)
      have hBx := bel_box (w := w1) (Obj.cells #[.int .i64 (leastP g R)] 3)
      have hB2 := hB1.trans (hBx.mono hB1.size)
      have HO2 := Lib.hid (hOb.below hBx)
      have HP6 : Hid (∀ W, Below (w1.alloc (Obj.cells #[.int .i64 (leastP g R)] 3)).heap.size (w1.alloc (Obj.cells #[.int .i64 (leastP g R)] 3)) W → W.heap[w1.heap.size]? = some (Obj.cells #[.int .i64 (leastP g R)] 3 (0, 0))) := fun W hW => (hW.block _ (by simp)).trans (heap_alloc_new w1 _)
      have HS2 := Lib.hid (HSv.out.below hB2)
      have HG2 := Lib.hid (HGn.out.below hB2)
      have HH2 : Hid (Only D.hot w (w1.alloc (Obj.cells #[.int .i64 (leastP g R)] 3))) := HH.out.trans (Only.of_below hB2)
      have HB2 := Lib.hid hB2
      have HSL0 := Lib.hid HSv.out.ll
      have H6 : Hid ((w1.alloc (Obj.cells #[.int .i64 (leastP g R)] 3)).heap[w1.heap.size]? = some (Obj.cells #[.int .i64 (leastP g R)] 3 (0, 0))) := heap_alloc_new w1 _
      have H6lt : Hid (w.heap.size ≤ w1.heap.size) := Nat.le_trans hz hB1.size
      clear HP6 hOb hB1 hBx hB2 HSv HGn HH hz d1 d2 d3
      generalize (w1.alloc (Obj.cells #[.int .i64 (leastP g R)] 3)) = w2 at *
      generalize w1.heap.size = c6 at *
      have hz := HH2.out.size
      obtain ⟨d1, d2, d3⟩ := HC.out w2 HH2.out.orB
      have e6 := cell_of_row _ _ 0 _ _ _ H6.out
      have hbl : (bestL g R).length ≤ R.length := List.length_filter_le _ _
      have HBI : Hid (IsInts w2 (.slice aB (bestL g R).length cB) (bestL g R)) := HO2.out.is (by unfold maxN; omega) (mem_I64 hn3 fun x hx => by obtain ⟨v, e, h, -⟩ := HPI.out.mem.rg x (best_sub hx); exact ⟨v, e, h⟩)
      go_wp2_with fail
      refine (attract_c w2 D g n bf al1 lf1 wn1 (leastP g R) _ (bestL g R) (HS2.out.up hz) HGO.out HBI.out (fun x hx => HPI.out.mem.rg x (best_sub hx)) (HPI.out.mem.nd.filter _) (by omega) HLf.out HPI.out.tot).mono ?_
      rintro e w3 ⟨vq1, st1, rfl, hq1, ha3, hl3, hw3, ho3, hI1⟩
      obtain ⟨aQ, cQ, rfl⟩ := hq1.slice
      have HI1 := Lib.hid hI1
      have HSet := Lib.hid (hI1.set HPI.out.la)
      have HLf1 := Lib.hid (hI1.lfOK HGO.out)
      have hql := hI1.len
      have HTot1 : Hid (TotB g n st1.al) := by
        have : Total g (setOf st1.al) := by
          have e : setOf st1.al = fun i => setOf al1 i ∧ ¬ memOf st1.q i := funext fun i => propext (hI1.set HPI.out.la i)
          rw [e]; exact (hI1.attIn HGO.out HPI.out.la).total (HPI.out.tot.total HGO.out HPI.out.la)
        exact this.totB
      have HM1 := Lib.hid (HPI.out.mem.filter (al1 := st1.al) (fun i hi => ((HSet.out i).1 hi).1))
      have HLess : Hid ((R.filter (inS st1.al)).length < R.length) := by
        obtain ⟨x, hx⟩ := best_ne (g := g) (r := R) (fun e => hlt (by rw [e]; rfl)) (fun x hx => by obtain ⟨v, rfl, hv, -⟩ := HPI.out.mem.rg x hx; exact HGO.out.pr v hv)
        have hq := hI1.tq x hx
        obtain ⟨v, rfl, hv, ha⟩ := hI1.qr x hq
        refine filter_less (HPI.out.mem.all v hv ha) ?_
        cases hb : inS st1.al (v : Int)
        · rfl
        · exact absurd hq ((HSet.out v).1 hb).2
      have HS3 : Hid (Sv w.heap.size w3 D g n bf st1.al st1.lf wn1) := HS2.out.after ho3.orB ha3 hl3 hw3 hI1.la hI1.ll HS2.out.lw
      have HQ3 : Hid (OI w3 w.heap.size (.slice aQ st1.q.length cQ) st1.q) := hq1.down hz
      have HG3 := Lib.hid (HG2.out.only ho3 fun k hk e => by have := HG2.out.ge k hk; have := HHot.out k e; omega)
      have HH3 : Hid (Only D.hot w w3) := HH2.out.trans ho3
      have H63 : Hid (w3.heap[c6]? = some (Obj.cells #[.int .i64 (leastP g R)] 3 (0, 0))) := (ho3.block c6 (Array.getElem?_eq_some_iff.1 H6.out).1 (fun e => by have := HHot.out c6 e; have := H6lt.out; omega)).trans H6.out
      have HRk : Hid (∀ W, Only (fun k => D.hot k ∨ u5.ownBlock = some k ∨ wr.heap.size ≤ k) w3 W → IsInts W (.slice aR R.length capR) R) := fun W hW => HKg.out W (((Only.of_below HB2.out).trans (ho3.mono fun _ _ e => .inl e)).trans hW)
      clear hq1 ha3 hl3 hw3 hI1 HS2 HG2 HH2 H6 HO2 HBI e6 d1 d2 d3 hz HKg
      have hz := HH3.out.size
      obtain ⟨d1, d2, d3⟩ := HC.out w3 HH3.out.orB
      go_wp2_with fail
      refine (keep_c w3 _ R _ _ (inS st1.al) (HRk.out w3 (Only.refl _ _)) (by omega) enters_living (fun W2 hW2 x hx => ?_)).mono ?_
      · obtain ⟨v, rfl, hv, -⟩ := HPI.out.mem.rg x hx
        exact living_c W2 (HS3.out.below hW2) c1 v (cellB hW2 d1) hv
      rintro e w4 ⟨vin, rfl, hin, hB4⟩
      obtain ⟨aI, cI, rfl⟩ := hin.slice
      have HS4 := Lib.hid (HS3.out.below hB4)
      have HQ4 := Lib.hid (HQ3.out.below hB4)
      have HG4 := Lib.hid (HG3.out.below hB4)
      have HH4 : Hid (Only D.hot w w4) := HH3.out.trans (Only.of_below hB4)
      have H64 : Hid (w4.heap[c6]? = some (Obj.cells #[.int .i64 (leastP g R)] 3 (0, 0))) := (hB4.block c6 (Array.getElem?_eq_some_iff.1 H63.out).1).trans H63.out
      have HRk4 : Hid (∀ W, Only (fun k => D.hot k ∨ u5.ownBlock = some k ∨ wr.heap.size ≤ k) w4 W → IsInts W (.slice aR R.length capR) R) := fun W hW => HRk.out W ((Only.of_below hB4).trans hW)
      have HIn4 : Hid (OI w4 w.heap.size (.slice aI (R.filter (inS st1.al)).length cI) (R.filter (inS st1.al))) := hin.down hz
      clear hin hB4 HS3 HQ3 HG3 HH3 H63 HRk d1 d2 d3 hz
      have hz := HH4.out.size
      obtain ⟨d1, d2, d3⟩ := HC.out w4 HH4.out.orB
      obtain ⟨inn, hinn⟩ : ∃ inn, inn = R.filter (inS st1.al) := ⟨_, rfl⟩
      have HInn := Lib.hid hinn
      rw [← hinn] at HIn4 HM1 HLess ⊢
      clear hinn
      have hless := HLess.out
      have hinl := HM1.out.len
      have HKin : Hid (Kp w4.heap.size w4 D (.slice aI inn.length cI) inn) := HIn4.out.kp HHot.out (Nat.le_refl _) (by unfold maxN; omega) (mem_I64 hn3 fun x hx => by obtain ⟨v, e, h, -⟩ := HM1.out.rg x hx; exact ⟨v, e, h⟩)
      go_wp2_with fail
      refine (HIH.out w4 D g n bf st1.al st1.lf wn1 _ inn c1 c2 c3 (by omega) (HS4.out.up hz) HGO.out HKin.out HM1.out HLf1.out HTot1.out (HC.out.step HH4.out.orB hz)).mono ?_
      rintro e w5 ⟨rfl, wn2, ha5, hl5, hw5, hwl5, ho5, hsol5, hout5⟩
      have HS5 : Hid (Sv w.heap.size w5 D g n bf st1.al st1.lf wn2) := HS4.out.after ho5.orB ha5 hl5 hw5 HI1.out.la HI1.out.ll hwl5
      have hqh : ∀ (W W' : World) (v : Value) (l : List Int), OI W w.heap.size v l → Only D.hot W W' → OI W' w.heap.size v l := fun W W' v l h ho => h.only ho fun k hk e => by have := h.ge k hk; have := HHot.out k e; omega
      have HQH := Lib.hid hqh
      have HQ5 := Lib.hid (hqh _ _ _ _ HQ4.out ho5)
      have HG5 := Lib.hid (hqh _ _ _ _ HG4.out ho5)
      have HIn5 := Lib.hid (hqh _ _ _ _ HIn4.out ho5)
      have HH5 : Hid (Only D.hot w w5) := HH4.out.trans ho5
      have h6h : ∀ (W W' : World), W.heap[c6]? = some (Obj.cells #[.int .i64 (leastP g R)] 3 (0, 0)) → Only D.hot W W' → W'.heap[c6]? = some (Obj.cells #[.int .i64 (leastP g R)] 3 (0, 0)) := fun W W' h ho => (ho.block c6 (Array.getElem?_eq_some_iff.1 h).1 (fun e => by have := HHot.out c6 e; have := H6lt.out; omega)).trans h
      have H6H := Lib.hid h6h
      have H65 := Lib.hid (h6h _ _ H64.out ho5)
      have HRk5 : Hid (∀ W, Only (fun k => D.hot k ∨ u5.ownBlock = some k ∨ wr.heap.size ≤ k) w5 W → IsInts W (.slice aR R.length capR) R) := fun W hW => HRk4.out W ((ho5.mono fun _ _ e => .inl e).trans hW)
      have HSol := Lib.hid hsol5
      have HOut := Lib.hid hout5
      have HWl := Lib.hid hwl5
      clear ha5 hl5 hw5 hwl5 ho5 hsol5 hout5 HS4 HQ4 HG4 HIn4 HH4 H64 HRk4 HKin hqh h6h d1 d2 d3 hz
      have hz := HH5.out.size
      obtain ⟨d1, d2, d3⟩ := HC.out w5 HH5.out.orB
      have HKq : Hid (Kp w5.heap.size w5 D (.slice aQ st1.q.length cQ) st1.q) := HQ5.out.kp HHot.out (Nat.le_refl _) (by unfold maxN; omega) (mem_I64 hn3 fun x hx => by obtain ⟨v, e, h, -⟩ := HI1.out.qr x hx; exact ⟨v, e, h⟩)
      go_wp2_with fail
      refine (revive_c w5 D g n bf st1.al st1.lf wn2 _ st1.q (HS5.out.up hz) HGO.out HKq.out (fun x hx => by obtain ⟨v, e, h, -⟩ := HI1.out.qr x hx; exact ⟨v, e, h⟩) (by omega) (HLf1.out.bound HGO.out)).mono ?_
      rintro e w6 ⟨rfl, ha6, hl6, hw6, ho6⟩
      rw [revive_al HPI.out.la HI1.out.la HI1.out.qr HSet.out] at ha6
      rw [revive_lf HGO.out HSL0.out HI1.out.ll HI1.out.qr HI1.out.nd HSet.out HLf.out HLf1.out] at hl6
      have HS6 : Hid (Sv w.heap.size w6 D g n bf al1 lf1 wn2) := HS5.out.after ho6.orB ha6 hl6 hw6 HPI.out.la HSL0.out HWl.out
      have HQ6 := Lib.hid (HQH.out _ _ _ _ HQ5.out ho6)
      have HG6 := Lib.hid (HQH.out _ _ _ _ HG5.out ho6)
      have HIn6 := Lib.hid (HQH.out _ _ _ _ HIn5.out ho6)
      have HH6 : Hid (Only D.hot w w6) := HH5.out.trans ho6
      have H66 := Lib.hid (H6H.out _ _ H65.out ho6)
      have HRk6 : Hid (∀ W, Only (fun k => D.hot k ∨ u5.ownBlock = some k ∨ wr.heap.size ≤ k) w6 W → IsInts W (.slice aR R.length capR) R) := fun W hW => HRk5.out W ((ho6.mono fun _ _ e => .inl e).trans hW)
      clear ha6 hl6 hw6 ho6 HS5 HQ5 HG5 HIn5 HH5 H65 HRk5 HKq d1 d2 d3 hz
      have hz := HH6.out.size
      obtain ⟨d1, d2, d3⟩ := HC.out w6 HH6.out.orB
      have e6 := cell_of_row _ _ 0 _ _ _ H66.out
      have c6w := HS6.out.field 6 rfl
      go_upto_region 7 with (fail)
      go_still_tail 6, (by kernel_rfl)
      change wpList _ _ _ _ _ w6.drew
      clear d1 d2 d3 e6 c6w hz
      have hdr := Below.drew (Below.refl w6.heap.size w6)
      have HS7 := Lib.hid (HS6.out.below hdr)
      have HQ7 := Lib.hid (HQ6.out.below hdr)
      have HG7 := Lib.hid (HG6.out.below hdr)
      have HIn7 := Lib.hid (HIn6.out.below hdr)
      have HH7 : Hid (Only D.hot w w6.drew) := HH6.out.trans (Only.of_below hdr)
      have H67 : Hid (w6.drew.heap[c6]? = some (Obj.cells #[.int .i64 (leastP g R)] 3 (0, 0))) := H66.out
      have HRk7 : Hid (∀ W, Only (fun k => D.hot k ∨ u5.ownBlock = some k ∨ wr.heap.size ≤ k) w6.drew W → IsInts W (.slice aR R.length capR) R) := fun W hW => HRk6.out W ((Only.of_below hdr).trans hW)
      clear hdr HS6 HQ6 HG6 HIn6 HH6 H66 HRk6
      generalize w6.drew = w7 at *
      have hz := HH7.out.size
      go_wp2_with fail
      refine (liftI_c w7 D.bw n _ wn2 st1.q (leastP g R) HS7.out.w HWl.out (fun W hW => (HQ7.out.only hW fun k hk e => by have := HQ7.out.ge k hk; have := HHot.out k (.inr (.inr e)); omega).is (by unfold maxN; omega) (mem_I64 hn3 fun x hx => by obtain ⟨v, e, h, -⟩ := HI1.out.qr x hx; exact ⟨v, e, h⟩)) (fun x hx => by obtain ⟨v, e, h, -⟩ := HI1.out.qr x hx; exact ⟨v, e, h⟩)).mono ?_
      rintro e w8 ⟨rfl, hw8, ho8'⟩
      have ho8 : Only D.hot w7 w8 := Only.one ho8' (.inr (.inr rfl))
      obtain ⟨wn3, hwn3⟩ : ∃ wn3, wn3 = liftI wn2 st1.q (leastP g R) := ⟨_, rfl⟩
      have HWn3 := Lib.hid hwn3
      rw [← hwn3] at hw8
      have hwl3 : wn3.length = n := by rw [hwn3, liftI_len, HWl.out]
      clear hwn3
      have HS8 : Hid (Sv w.heap.size w8 D g n bf al1 lf1 wn3) := HS7.out.toW ho8' hw8 hwl3
      have HQ8 := Lib.hid (HQH.out _ _ _ _ HQ7.out ho8)
      have HG8 := Lib.hid (HQH.out _ _ _ _ HG7.out ho8)
      have HIn8 := Lib.hid (HQH.out _ _ _ _ HIn7.out ho8)
      have HH8 : Hid (Only D.hot w w8) := HH7.out.trans ho8
      have H68 := Lib.hid (H6H.out _ _ H67.out ho8)
      have HRk8 : Hid (∀ W, Only (fun k => D.hot k ∨ u5.ownBlock = some k ∨ wr.heap.size ≤ k) w8 W → IsInts W (.slice aR R.length capR) R) := fun W hW => HRk7.out W ((ho8.mono fun _ _ e => .inl e).trans hW)
      have HWl3 := Lib.hid hwl3
      clear hw8 ho8' ho8 hwl3 HS7 HQ7 HG7 HIn7 HH7 H67 HRk7 hz
      have hz := HH8.out.size
      obtain ⟨d1, d2, d3⟩ := HC.out w8 HH8.out.orB
      have HInI : Hid (IsInts w8 (.slice aI inn.length cI) inn) := HIn8.out.is (by unfold maxN; omega) (mem_I64 hn3 fun x hx => by obtain ⟨v, e, h, -⟩ := HM1.out.rg x hx; exact ⟨v, e, h⟩)
      have e6 := cell_of_row _ _ 0 _ _ _ H68.out
      go_wp2_with fail
      refine (keep_c w8 _ inn _ _ (fun x => wn3.getD x.toNat 0 != leastP g R) HInI.out (by omega) enters_other (fun W2 hW2 x hx => ?_)).mono ?_
      · obtain ⟨v, rfl, hv, -⟩ := HM1.out.rg x hx
        exact other_c W2 (HS8.out.below hW2) c1 c6 v (leastP g R) (cellB hW2 d1) (cellB hW2 e6) hv
      rintro e w9 ⟨vl, rfl, hlo, hB9⟩
      obtain ⟨aL, cL, rfl⟩ := hlo.slice
      obtain ⟨lost, hlost⟩ : ∃ lost, lost = inn.filter (fun x => wn3.getD x.toNat 0 != leastP g R) := ⟨_, rfl⟩
      rw [← hlost] at hlo ⊢
      have hloL : lost.length ≤ inn.length := by rw [hlost]; exact List.length_filter_le _ _
      have hloM : ∀ x ∈ lost, x ∈ inn := fun x hx => by rw [hlost] at hx; exact (List.mem_filter.1 hx).1
      have hloN : lost.Nodup := by rw [hlost]; exact HM1.out.nd.filter _
      have HLost := Lib.hid hlost
      have HLoN := Lib.hid hloN
      have HLoM := Lib.hid hloM
      clear hlost hloN hloM
      have HS9 := Lib.hid (HS8.out.below hB9)
      have HG9 := Lib.hid (HG8.out.below hB9)
      have HH9 : Hid (Only D.hot w w9) := HH8.out.trans (Only.of_below hB9)
      have H69 : Hid (w9.heap[c6]? = some (Obj.cells #[.int .i64 (leastP g R)] 3 (0, 0))) := (hB9.block c6 (Array.getElem?_eq_some_iff.1 H68.out).1).trans H68.out
      have HRk9 : Hid (∀ W, Only (fun k => D.hot k ∨ u5.ownBlock = some k ∨ wr.heap.size ≤ k) w9 W → IsInts W (.slice aR R.length capR) R) := fun W hW => HRk8.out W ((Only.of_below hB9).trans hW)
      have HLo9 : Hid (OI w9 w.heap.size (.slice aL lost.length cL) lost) := hlo.down hz
      clear hlo hB9 HS8 HQ8 HG8 HIn8 HH8 H68 HRk8 HInI d1 d2 d3 e6 hz
      have hz := HH9.out.size
      have hgl : gone.length ≤ 3000 := Nat.le_trans (pigeonLen HPI.out.gr HPI.out.gn) hn3
      have HKgn : Hid (Kp w9.heap.size w9 D u5 gone) := HG9.out.kp HHot.out (Nat.le_refl _) (by unfold maxN; omega) (mem_I64 hn3 fun x hx => by obtain ⟨v, e, h, -⟩ := HPI.out.gr x hx; exact ⟨v, e, h⟩)
      obtain ⟨d1, d2, d3⟩ := HC.out w9 HH9.out.orB
      by_cases hle : lost.length = 0
      · have hlei : (lost.length : Int) = 0 := by omega
        have hlnil := List.eq_nil_of_length_eq_zero hle
        have HEnd : Hid (Sol g (setOf al) (fun i => wn3.getD i 0) ∧ ∀ v, v < n → al.getD v false = false → wn3.getD v 0 = wn.getD v 0) := by
          show _ ∧ _
          have := HPI.out.won HGO.out HI1.out HSol.out HWl.out HOut.out (by rw [← HInn.out, ← HWn3.out, ← HLost.out, hlnil])
          rw [← HWn3.out] at this
          exact this
        clear hle hlnil
        go_wp2_with fail
        refine (revive_c w9 D g n bf al1 lf1 wn3 _ gone (HS9.out.up hz) HGO.out HKgn.out (fun x hx => by obtain ⟨v, e, h, -⟩ := HPI.out.gr x hx; exact ⟨v, e, h⟩) hgl (HLf.out.bound HGO.out)).mono ?_
        rintro e wz ⟨rfl, haz, hlz, hwz, hoz⟩
        rw [revive_al HLa.out HPI.out.la HPI.out.gr HPI.out.st] at haz
        rw [revive_lf HGO.out HLl.out HS9.out.ll HPI.out.gr HPI.out.gn HPI.out.st HLf0.out HLf.out] at hlz
        have hFin := HH9.out.trans hoz
        go_wp2
        go_end0
        exact ⟨rfl, wn3, haz, hlz, hwz, HS9.out.lw, hFin, HEnd.out.1, HEnd.out.2⟩
      · have hlei : ((lost.length : Int) == 0) = false := beq_eq_false_iff_ne.2 (by omega)
        have hlne : lost ≠ [] := fun e => hle (by rw [e]; rfl)
        have HNe := Lib.hid hlne
        have e6 := cell_of_row _ _ 0 _ _ _ H69.out
        have hp2 := leastP_two (g := g) R
        have hs1 : IntKind.i64.wrap (1 - leastP g R) = 1 - leastP g R := IntWalk.i64_in _ ⟨by omega, by omega⟩
        have HLoI : Hid (IsInts w9 (.slice aL lost.length cL) lost) := HLo9.out.is (by unfold maxN; omega) (mem_I64 hn3 fun x hx => by obtain ⟨v, e, h, -⟩ := HM1.out.rg x (HLoM.out x hx); exact ⟨v, e, h⟩)
        have hloMem : Hid (∀ x ∈ lost, ∃ v : Nat, x = v ∧ v < n ∧ al1.getD v false = true) := fun x hx => by
          obtain ⟨v, e, h, ha⟩ := HM1.out.rg x (HLoM.out x hx)
          exact ⟨v, e, h, ((HSet.out v).1 ha).1⟩
        clear hle hlne HKgn
        go_wp2_with fail
        refine (attract_c w9 D g n bf al1 lf1 wn3 (1 - leastP g R) _ lost (HS9.out.up hz) HGO.out HLoI.out hloMem.out HLoN.out (by omega) HLf.out HPI.out.tot).mono ?_
        rintro e w10 ⟨vq2, st2, rfl, hq2, ha10, hl10, hw10, ho10, hI2⟩
        obtain ⟨aF, cF, rfl⟩ := hq2.slice
        have HI2 := Lib.hid hI2
        have HLf2 := Lib.hid (hI2.lfOK HGO.out)
        have hql2 := hI2.len
        have HS10 : Hid (Sv w.heap.size w10 D g n bf st2.al st2.lf wn3) := HS9.out.after ho10.orB ha10 hl10 hw10 hI2.la hI2.ll HWl3.out
        have HQ10 : Hid (OI w10 w.heap.size (.slice aF st2.q.length cF) st2.q) := hq2.down hz
        have HG10 := Lib.hid (HQH.out _ _ _ _ HG9.out ho10)
        have HH10 : Hid (Only D.hot w w10) := HH9.out.trans ho10
        have H610 := Lib.hid (H6H.out _ _ H69.out ho10)
        have HRk10 : Hid (∀ W, Only (fun k => D.hot k ∨ u5.ownBlock = some k ∨ wr.heap.size ≤ k) w10 W → IsInts W (.slice aR R.length capR) R) := fun W hW => HRk9.out W ((ho10.mono fun _ _ e => .inl e).trans hW)
        clear hq2 ha10 hl10 hw10 ho10 hI2 HS9 HG9 HH9 H69 HRk9 HLo9 HLoI d1 d2 d3 e6 hz
        have hz := HH10.out.size
        obtain ⟨d1, d2, d3⟩ := HC.out w10 HH10.out.orB
        have e6 := cell_of_row _ _ 0 _ _ _ H610.out
        have c6w := HS10.out.field 6 rfl
        go_upto_region 11 with (fail)
        go_still_tail 7, (by kernel_rfl)
        change wpList _ _ _ _ _ w10.drew
        clear d1 d2 d3 e6 c6w hz
        have hdr := Below.drew (Below.refl w10.heap.size w10)
        have HS11 := Lib.hid (HS10.out.below hdr)
        have HQ11 := Lib.hid (HQ10.out.below hdr)
        have HG11 := Lib.hid (HG10.out.below hdr)
        have HH11 : Hid (Only D.hot w w10.drew) := HH10.out.trans (Only.of_below hdr)
        have HRk11 : Hid (∀ W, Only (fun k => D.hot k ∨ u5.ownBlock = some k ∨ wr.heap.size ≤ k) w10.drew W → IsInts W (.slice aR R.length capR) R) := fun W hW => HRk10.out W ((Only.of_below hdr).trans hW)
        clear hdr HS10 HQ10 HG10 HH10 HRk10
        generalize w10.drew = w11 at *
        have hz := HH11.out.size
        go_wp2_with fail
        refine (liftI_c w11 D.bw n _ wn3 st2.q (1 - leastP g R) HS11.out.w HWl3.out (fun W hW => (HQ11.out.only hW fun k hk e => by have := HQ11.out.ge k hk; have := HHot.out k (.inr (.inr e)); omega).is (by unfold maxN; omega) (mem_I64 hn3 fun x hx => by obtain ⟨v, e, h, -⟩ := HI2.out.qr x hx; exact ⟨v, e, h⟩)) (fun x hx => by obtain ⟨v, e, h, -⟩ := HI2.out.qr x hx; exact ⟨v, e, h⟩)).mono ?_
        rintro e w12 ⟨rfl, hw12, ho12'⟩
        have ho12 : Only D.hot w11 w12 := Only.one ho12' (.inr (.inr rfl))
        have HNext := HPI.out.next HGO.out HI1.out HSol.out HWl.out HOut.out lost (by rw [HLost.out, HInn.out, HWn3.out]) HNe.out HI2.out
        rw [← HWn3.out] at HNext
        obtain ⟨wn4, hwn4⟩ : ∃ wn4, wn4 = liftI wn3 st2.q (1 - leastP g R) := ⟨_, rfl⟩
        rw [← hwn4] at hw12 HNext
        have hwl4 : wn4.length = n := by rw [hwn4, liftI_len, HWl3.out]
        clear hwn4
        have HPN := Lib.hid HNext.1
        have hRless := HNext.2
        have HS12 : Hid (Sv w.heap.size w12 D g n bf st2.al st2.lf wn4) := HS11.out.toW ho12' hw12 hwl4
        have HQ12 := Lib.hid (HQH.out _ _ _ _ HQ11.out ho12)
        have HG12 := Lib.hid (HQH.out _ _ _ _ HG11.out ho12)
        have HH12 : Hid (Only D.hot w w12) := HH11.out.trans ho12
        have HRk12 : Hid (∀ W, Only (fun k => D.hot k ∨ u5.ownBlock = some k ∨ wr.heap.size ≤ k) w12 W → IsInts W (.slice aR R.length capR) R) := fun W hW => HRk11.out W ((ho12.mono fun _ _ e => .inl e).trans hW)
        have HQI : Hid (IsInts w12 (.slice aF st2.q.length cF) st2.q) := HQ12.out.is (by unfold maxN; omega) (mem_I64 hn3 fun x hx => by obtain ⟨v, e, h, -⟩ := HI2.out.qr x hx; exact ⟨v, e, h⟩)
        have hMN := HPI.out.mem
        clear hw12 ho12' ho12 hwl4 HNext HS11 HQ11 HG11 HH11 HRk11 hz hMN
        have hz := HH12.out.size
        obtain ⟨R2, hR2⟩ : ∃ R2, R2 = R.filter (inS st2.al) := ⟨_, rfl⟩
        have HR2 := Lib.hid hR2
        rw [← hR2] at HPN hRless
        clear hR2
        go_wp2_with (first | (at_builtin; refine app_set rfl _ _ rfl w.heap.size _ _ gone st2.q HG12.out rfl HQI.out rfl (by omega) hz ?_; intro vg w13 hown13 hg13 hmv13; have HG13 := Lib.hid hown13; have hS13 : Sv w.heap.size w13 D g n bf st2.al st2.lf wn4 := HS12.out.above ((Only.of_grown hg13).mono fun k _ hk => HG12.out.ge k hk); have HS13 := Lib.hid hS13; have HH13 : Hid (Only D.hot w w13) := HH12.out.grow hg13 (fun k hk => HG12.out.ge k hk); have HR13 : Hid (IsInts w13 (.slice aR R.length capR) R) := HRk12.out w13 ((Only.of_grown hg13).mono fun k _ hk => .inr (.inl hk)); have d1 := (HC.out w13 HH13.out.orB).1; have d2 := (HC.out w13 HH13.out.orB).2.1; have d3 := (HC.out w13 HH13.out.orB).2.2; clear hown13 hg13 hmv13 hS13) | fail)
        refine (keep_c w13 _ R _ _ (inS st2.al) HR13.out (by omega) enters_living (fun W2 hW2 x hx => ?_)).mono ?_
        · obtain ⟨v, rfl, hv, -⟩ := HPI.out.mem.rg x hx
          exact living_c W2 (HS13.out.below hW2) c1 v (cellB hW2 d1) hv
        rintro e w14 ⟨vR, rfl, hR14, hB14⟩
        rw [← HR2.out] at hR14
        have HS14 := Lib.hid (HS13.out.below hB14)
        have HG14 := Lib.hid (HG13.out.below hB14)
        have HH14 : Hid (Only D.hot w w14) := HH13.out.trans (Only.of_below hB14)
        have hz13 := HH13.out.size
        have HKg14 : Hid (∀ W, Only (fun k => D.hot k ∨ vg.ownBlock = some k ∨ w14.heap.size ≤ k) w14 W → IsInts W vR R2) := fun W hW => (hR14.only hW fun k hk hh => by
          have h1 := hR14.ge k hk
          have h2 := hR14.lt' k hk
          rcases hh with h | h | h
          · have := HHot.out k h; omega
          · have := HG13.out.lt' k h; omega
          · omega).is (by have := HPN.out.mem.len; unfold maxN; omega) (mem_I64 hn3 fun x hx => by obtain ⟨v, e, h, -⟩ := HPN.out.mem.rg x hx; exact ⟨v, e, h⟩)
        clear hR14 hB14 d1 d2 d3
        go_wp2
        go_roundg R2.length
        case rel => exact ⟨st2.al, st2.lf, wn4, R2, gone ++ st2.q, rfl, by omega, HPN, HS14, HLf2, HG14, HH14, HKg14⟩
        case measure => omega

end Go.Proofs.Ytjhafakkadnfmaa
