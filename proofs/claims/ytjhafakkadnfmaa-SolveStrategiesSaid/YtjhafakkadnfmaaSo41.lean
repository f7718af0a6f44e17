/- What choices computes. -/
import Derived.Test.YtjhafakkadnfmaaSo40
import Derived.Deep.RegionLaw
namespace Go.Proofs.Ytjhafakkadnfmaa
open Go.RowKit

theorem mk_rowsI {ops : Array Oper} {rest : List Oper} {o : Oper} {a : Act} {Q : Exit → Act → World → Prop} {w : World} (hgd : o.guard = none) (l c : Operand) (t : TypeId) (ht : Try.prog.underlying t = some (.slice 22))
    (ho : o.op = Op.makeSlice t l c) (base : Nat) (L : Int) (n : Nat) (hl : a.eval l = .int .i64 L) (hc : a.eval c = .int .i64 L) (hL : L = (n : Int)) (hn : n ≤ 11728124028000) (hbase : base ≤ w.heap.size)
    (h : ∀ w', w'.ownsRow base 22 1 (.slice (some ⟨w.heap.size, 0, none⟩) n n) n (List.replicate n (.slice none 0 0)) → w.grownBy w' none → wpList Try.prog ops Q rest (a.put o.dst (.slice (some ⟨w.heap.size, 0, none⟩) n n)) w') :
    wpList Try.prog ops Q (o :: rest) a w :=
  wpList_mk1 hgd l c t _ 24 _ ho ht info_ints rfl base L n hl hc hL (by omega) (by omega) hbase h

theorem Rows.ofNil {W : World} {B ob n : Nat} (h : W.ownsRow B 22 1 (.slice (some ⟨ob, 0, none⟩) n n) n (List.replicate n (.slice none 0 0))) : Rows W B n ob (List.replicate n (.slice none 0 0)) (List.replicate n []) := by
  have hg : ∀ j, j < n → (List.replicate n (Value.slice none 0 0)).getD j undef = .slice none 0 0 := fun j hj => by simp [List.getD, hj]
  have hg2 : ∀ j, j < n → (List.replicate n ([] : List Int)).getD j [] = [] := fun j hj => by simp [List.getD, hj]
  refine ⟨h, fun j hj => ?_, fun i j hi hj _ => ?_, fun j hj => ?_, by simp, by simp⟩
  · rw [hg j hj, hg2 j hj]; exact OI_nil _ _
  · rw [hg i hi]; intro k hk; cases hk
  · rw [hg j hj]; intro hk; cases hk

theorem Rows.is {w : World} {B n ob : Nat} {vals : List Value} {rows : List (List Int)} (h : Rows w B n ob vals rows) (hn : n ≤ 3000) (hl : ∀ j, j < n → (rows.getD j []).length ≤ 3000 ∧ ∀ x ∈ rows.getD j [], I64 x) : IsRows w (.slice (some ⟨ob, 0, none⟩) n n) rows := by
  have hlr := h.lr
  refine ⟨fun j => vals.getD j undef, ?_, fun j hj => (h.e j (by omega)).is (by have := (hl j (by omega)).1; unfold maxN; omega) (hl j (by omega)).2⟩
  rw [hlr]
  refine ownsRow_arr h.o (by unfold maxN; omega) _ fun j hj => ?_
  have : j < vals.length := by rw [h.lv]; exact hj
  rw [getD_lt _ _ _ this]; simp [this]

/-- The rows of the first positions. -/
def bfK (g : Gm) (p : Int) (s : List Bool) (n i : Nat) : List (List Int) := (List.range n).map fun j => if j < i then chR g p s j else []
theorem bfK_zero (g : Gm) (p : Int) (s : List Bool) (n : Nat) : bfK g p s n 0 = List.replicate n [] := by
  apply List.ext_getElem (by simp [bfK])
  intro j h1 h2
  simp [bfK]
theorem bfK_all (g : Gm) (p : Int) (s : List Bool) (n : Nat) : bfK g p s n n = chL g p s n := by
  apply List.ext_getElem (by simp [bfK, chL])
  intro j h1 h2
  have : j < n := by simpa [bfK] using h1
  simp [bfK, chL, this]
theorem bfK_set (g : Gm) (p : Int) (s : List Bool) (n i : Nat) : (bfK g p s n i).set i (chR g p s i) = bfK g p s n (i + 1) := by
  apply List.ext_getElem (by simp [bfK])
  intro j h1 h2
  rw [List.getElem_set]
  simp only [bfK, List.getElem_map, List.getElem_range]
  by_cases e : i = j
  · subst e; simp
  · rw [if_neg e]
    by_cases h3 : j < i
    · rw [if_pos h3, if_pos (by omega)]
    · rw [if_neg h3, if_neg (by omega)]
theorem bfK_set0 (g : Gm) (p : Int) (s : List Bool) (n i : Nat) : (bfK g p s n i).set i [] = bfK g p s n i := by
  apply List.ext_getElem (by simp)
  intro j h1 h2
  rw [List.getElem_set]
  split
  · rename_i e; subst e; simp [bfK]
  · rfl
theorem chR_len (g : Gm) (p : Int) (s : List Bool) (i m : Nat) (h : (g.succ.getD i []).length ≤ m) : (chR g p s i).length ≤ m := by
  unfold chR
  split
  · exact Nat.le_trans (List.length_filter_le _ _) h
  · exact Nat.zero_le _

/-- What a position has chosen behind j successors. -/
def chJ (x : Bool) (ow p : Int) (s : List Bool) (row : List Int) (j : Nat) : List Int := if x && decide (ow = p) then (row.take j).filter (inS s) else []
theorem chJ_zero (x : Bool) (ow p : Int) (s : List Bool) (row : List Int) : chJ x ow p s row 0 = [] := by simp [chJ]
theorem chJ_yes (ow : Int) (s : List Bool) (row : List Int) (j : Nat) : chJ true ow ow s row j = (row.take j).filter (inS s) := by simp [chJ]
theorem chJ_no {x : Bool} {ow p : Int} (h : ¬ (x = true ∧ ow = p)) (s : List Bool) (row : List Int) (j : Nat) : chJ x ow p s row j = [] := by
  unfold chJ
  rw [if_neg]
  rw [Bool.and_eq_true, decide_eq_true_eq]; exact h
theorem chJ_all (g : Gm) (p : Int) (s : List Bool) (i : Nat) : chR g p s i = chJ (s.getD i false) (g.owner.getD i 0) p s (g.succ.getD i []) (g.succ.getD i []).length := by unfold chR chJ; rw [List.take_length]

/-- What choices leaves. -/
def ChOut (all : List (List Int)) (n : Nat) (w : World) (e : Ending) (w' : World) : Prop := ∃ vr, e = .returned (.tuple #[vr, .int .i64 (totK all n : Nat)]) ∧ IsRows w' vr all ∧ Below w.heap.size w w'

set_option maxRecDepth 100000 in
set_option maxHeartbeats 8000000 in
theorem choices_c (w : World) (vg vs : Value) (g : Gm) (p : Int) (s : List Bool) (n : Nat) (hg : IsGame w vg g) (hs : IsBools w vs s)
    (hsl : s.length = n) (hon : g.owner.length = n) (hsn : g.succ.length = n) (hn : n ≤ 7) (h3 : ∀ i, (g.succ.getD i []).length ≤ 3)
    (hrg : ∀ i, i < n → ∀ x ∈ g.succ.getD i [], ∃ v : Nat, x = v ∧ v < n) :
    Calls Try.prog 18 #[vg, .int .i64 p, vs] w (ChOut (chL g p s n) n w) := by
  obtain ⟨v0, v1, v2, rfl, ⟨⟨ao0, cap0, b0, off0, rfl, g0⟩, -⟩, ⟨⟨ao1, cap1, b1, off1, rfl, -⟩, -⟩, ⟨V, ⟨ao2, cap2, b2, off2, rfl, g2⟩, hr⟩⟩ := hg
  obtain ⟨aos, caps, bs, offs, rfl, gs⟩ := hs
  rw [hsn] at g2 hr ⊢
  rw [hon] at g0 ⊢
  rw [hsl] at gs ⊢
  have HR := Lib.hid hr
  have HRG := Lib.hid hrg
  have H3 := Lib.hid h3
  have HL3 : Hid (∀ i, (chL g p s n).getD i [] = chR g p s i ∨ n ≤ i) := fun i => by
    rcases Nat.lt_or_ge i n with h | h
    · exact .inl (chL_at _ _ _ _ _ h)
    · exact .inr h
  have HT7 : Hid (∀ i, i ≤ n → totK (chL g p s n) i ≤ 2187) := fun i hi => totK_le7 _ _ (by omega) fun j => by
    rcases Nat.lt_or_ge j n with h | h
    · rw [chL_at _ _ _ _ _ h]; exact chR_len _ _ _ _ _ (h3 j)
    · simp [chL, List.getD, Nat.not_lt.2 h]
  obtain ⟨pn, hpn⟩ : ∃ k : Nat, k = g.prio.length := ⟨_, rfl⟩
  rw [← hpn]
  clear hpn hsl hon hsn hrg hr h3
  go_enter Try.func18, Try.ntmps18
  go_wp2_with (at_make; refine mk_rowsI rfl _ _ _ Try.underlying23 rfl (w.heap.size + 1) _ n rfl rfl rfl (by omega) (by simp) ?_; intro w2 hown2 hg2)
  have hbx2 : Boxed w w2 #[Value.slice ao0 n cap0, Value.slice ao1 pn cap1, Value.slice ao2 n cap2] := (Boxed.start (Below.refl _ _)).stepB ((Below.refl _ _).grown hg2 (by simp) (fun k hk => by cases hk))
  have hR2 : Rows w2 (w.heap.size + 1) n (w.heap.size + 1) (List.replicate n (.slice none 0 0)) (List.replicate n []) := Rows.ofNil (by simpa using hown2)
  clear hg2 hown2
  go_loopg [9, 10] n (fun gh t i wr => ∃ (k : Nat) (vals : List Value), gh = n - k ∧ t = .int .i64 (totK (chL g p s n) k : Nat) ∧ i = .int .i64 k ∧ k ≤ n ∧ Boxed w wr #[Value.slice ao0 n cap0, Value.slice ao1 pn cap1, Value.slice ao2 n cap2] ∧ Rows wr (w.heap.size + 1) n (w.heap.size + 1) vals (bfK g p s n k))
  case atStart => exact ⟨0, _, by omega, rfl, rfl, by omega, hbx2, by rw [bfK_zero]; exact hR2⟩
  case round =>
    obtain ⟨k, vals, hgk, rfl, rfl, hk, hB, hR⟩ := hrel
    have HGK := Lib.hid hgk
    clear hgk hbx2 hR2
    have d2 : wr.cell? ⟨w.heap.size, 2, none⟩ = some (Value.slice ao2 n cap2) := hB.cell 2 rfl
    by_cases hlt : k < n
    · obtain rfl := gs.ad (by omega)
      obtain rfl := g0.ad (by omega)
      obtain rfl := g2.ad (by omega)
      obtain ⟨⟨ao3, cap3, b3, off3, hv3, g3⟩, hi3⟩ := HR.out k hlt
      have hn3 := H3.out k
      have HCR := Lib.hid (chJ_all g p s k)
      have HB1 := Lib.hid (bfK_set g p s n k)
      have HB0 := Lib.hid (bfK_set0 g p s n k)
      have HRGK := Lib.hid (HRG.out k hlt)
      have HTN : Hid (totK (chL g p s n) (k + 1) = totK (chL g p s n) k * max (chR g p s k).length 1) := by show _ = _; rw [totK, chL_at _ _ _ _ _ hlt]
      have HT1 := HT7.out k (by omega)
      have HT2 := HT7.out (k + 1) (by omega)
      have hcs := gs.el k hlt
      have hco := g0.el k hlt
      have hcv := g2.el k hlt
      unfold bvF at hcs
      unfold ivF at hco
      rw [hv3] at hcv
      clear hv3
      generalize hT2 : totK (chL g p s n) (k + 1) = T2 at *
      have HT2E := Lib.hid hT2
      clear hT2
      generalize totK (chL g p s n) k = T1 at *
      generalize hbf1 : bfK g p s n (k + 1) = bf1 at *
      have HBFE := Lib.hid hbf1
      clear hbf1
      generalize hbf : bfK g p s n k = bf0 at *
      generalize g.succ.getD k [] = row at *
      generalize g.owner.getD k 0 = ow at *
      have HCC : Hid (∀ W, Below w.heap.size w W → W.cell? ⟨bs, offs + k, none⟩ = some (.bool (s.getD k false)) ∧ W.cell? ⟨b0, off0 + k, none⟩ = some (.int .i64 ow) ∧ W.cell? ⟨b2, off2 + k, none⟩ = some (.slice ao3 row.length cap3)) := fun W h => ⟨cellB h hcs, cellB h hco, cellB h hcv⟩
      have HBF : Hid (bf0.length = n) := by show _ = _; rw [← hbf]; simp [bfK]
      clear hcs hco hcv hbf
      generalize hx : s.getD k false = x at *
      have HX := Lib.hid hx
      clear hx
      generalize chR g p s k = cr at *
      obtain ⟨wo, rfl⟩ : ∃ wo : World, wo = wr := ⟨_, rfl⟩
      go_wp2
      clear d2
      go_loopg [11] row.length (fun gh i wx => ∃ (j : Nat) (vals : List Value), gh = row.length - j ∧ i = .int .i64 j ∧ j ≤ row.length ∧ Boxed w wx #[Value.slice (some ⟨b0, off0, none⟩) n cap0, Value.slice ao1 pn cap1, Value.slice (some ⟨b2, off2, none⟩) n cap2] ∧ Rows wx (w.heap.size + 1) n (w.heap.size + 1) vals (bf0.set k (chJ x ow p s row j)))
      case atStart => exact ⟨0, vals, by omega, rfl, by omega, hB, by rw [chJ_zero, HB0.out]; exact hR⟩
      case round =>
        obtain ⟨j, vals, hgj, rfl, hj, hBx, hRx⟩ := hrel
        have HGJ := Lib.hid hgj
        clear hgj hB hR
        obtain ⟨c1, c2, c3⟩ := HCC.out wr hBx.bl
        have d0 : wr.cell? ⟨w.heap.size, 0, none⟩ = some (Value.slice (some ⟨b0, off0, none⟩) n cap0) := hBx.cell 0 rfl
        have d2 : wr.cell? ⟨w.heap.size, 2, none⟩ = some (Value.slice (some ⟨b2, off2, none⟩) n cap2) := hBx.cell 2 rfl
        have hEj := hRx.e k hlt
        have hlen0 : k < bf0.length := by rw [HBF.out]; exact hlt
        rw [getD_set_eq _ _ _ _ hlen0] at hEj
        have co := hRx.cell hlt
        by_cases hC : x = true ∧ ow = p
        · obtain ⟨rfl, rfl⟩ := hC
          have hq1 : (ow == ow) = true := by simp
          by_cases hltj : j < row.length
          · obtain rfl := g3.ad (by omega)
            have c4 := cellB hBx.bl (g3.el j hltj)
            unfold ivF at c4
            rw [getD_lt _ _ _ hltj] at c4
            obtain ⟨q, hq, hqn⟩ := HRGK.out _ (List.getElem_mem hltj)
            rw [hq] at c4
            have c5 := cellB hBx.bl (gs.el q hqn)
            unfold bvF at c5
            have HIN : Hid (inS s row[j] = s.getD q false) := by show _ = _; rw [hq]; unfold inS; rw [Int.toNat_natCast]
            have HTK : Hid ((row.take (j + 1)).filter (inS s) = (row.take j).filter (inS s) ++ if inS s row[j] then [row[j]] else []) := by
              show _ = _
              rw [List.take_succ_eq_append_getElem hltj, List.filter_append, List.filter_cons, List.filter_nil]
            rw [HIN.out, hq] at HTK
            rw [chJ_yes] at hEj hRx
            have HIF := Lib.hid (chJ_yes ow s row (j + 1))
            obtain ⟨ae, ce, hve⟩ := hEj.slice
            rw [hve] at co
            have hlf : ((row.take j).filter (inS s)).length ≤ 3 := Nat.le_trans (List.length_filter_le _ _) (Nat.le_trans (List.length_take_le' _ _) hn3)
            generalize (row.take j).filter (inS s) = rj at *
            generalize (row.take (j + 1)).filter (inS s) = rj1 at *
            clear hq HIN
            generalize s.getD q false = y at *
            cases y with
            | false =>
              have HRX : Hid (Rows wr (w.heap.size + 1) n (w.heap.size + 1) vals (bf0.set k rj1)) := by
                have e : rj1 = rj := by rw [HTK.out]; simp
                rw [e]; exact hRx
              have HBX := Lib.hid hBx
              clear hRx hBx hEj hve hlf
              go_wp2
              go_roundg (row.length - (j + 1))
              case measure => have := HGJ.out; omega
              case rel => exact ⟨j + 1, vals, rfl, by go_num, by omega, HBX.out, by rw [HIF.out]; exact HRX.out⟩
            | true =>
              have HRX := Lib.hid hRx
              have HBX := Lib.hid hBx
              have hBs := hBx.lt
              have HVE := Lib.hid hve
              have HEJ := Lib.hid hEj
              have hre : rj1 = rj ++ [(q : Int)] := by rw [HTK.out]; simp
              subst hre
              clear hRx hBx hEj hve
              generalize hll : rj.length = ll at *
              have HLL := Lib.hid hll
              clear hll
              have co2 : (wr.alloc (.cells #[.int .i64 (q : Int)] 3)).cell? ⟨w.heap.size + 1, k, none⟩ = some (.slice ae ll ce) := cellB (bel_box _) co
              go_upto_region 10 with (fail)
              clear HCC HB0 HB1 HTN HT1 HT2
              go_region_law ((rw [if_pos (by rfl)]; refine wp_app_int wr _ _ (q : Int) (by rfl) (w.heap.size + 1) (.slice ae ll ce) rj (by rfl) (by rw [← HVE.out]; exact HEJ.out) (by rfl) (by rw [HLL.out]; omega) hBs ?_; intro v' w' hown' hg hmv; obtain ⟨aoy, capy, hvy⟩ := hown'.slice; generalize (rj ++ [(q : Int)]).length = len2 at hvy; subst hvy; rw [← HVE.out] at hg hmv; have HBG := Lib.hid (HBX.out.grown hg (fun g hg => HEJ.out.ge g hg)); have hq := HRX.out.push hlt hown' hg hmv; rw [HVE.out] at hq; obtain ⟨cq, fq, bq2⟩ := hq; rw [List.set_set] at bq2; have BQ := Lib.hid bq2; clear bq2))
              all_goals
                go_wp2
                go_roundg (row.length - (j + 1))
                case measure => have := HGJ.out; omega
                case rel => exact ⟨j + 1, _, rfl, by go_num, by omega, HBG.out.stepB (Below.setCell (B := w.heap.size + 1) (p := ⟨w.heap.size + 1, k, none⟩) (Below.refl _ _) (Nat.le_refl _) _), by rw [HIF.out]; exact BQ.out⟩
          · obtain rfl : j = row.length := by omega
            rw [← HCR.out] at hEj hRx
            obtain ⟨ae, ce, hve⟩ := hEj.slice
            rw [hve] at co
            have HRX : Hid (Rows wr (w.heap.size + 1) n (w.heap.size + 1) vals bf1) := by have := hRx; rw [← HB1.out]; exact this
            have HBX := Lib.hid hBx
            clear hEj hve hRx hBx
            have hcl : cr.length ≤ 3 := by rw [HCR.out, chJ_yes]; exact Nat.le_trans (List.length_filter_le _ _) (Nat.le_trans (List.length_take_le' _ _) hn3)
            generalize cr.length = cl at *
            have hw1 : IntKind.i64.wrap (T1 : Int) = (T1 : Int) := IntWalk.i64_in _ ⟨by omega, by omega⟩
            have hT2 := HTN.out
            rcases (by omega : cl = 0 ∨ cl = 1 ∨ cl = 2 ∨ cl = 3) with rfl | rfl | rfl | rfl
            all_goals
              have HTE := Lib.hid hT2
              clear hT2
              go_wp2
              all_goals
                go_roundg (n - (k + 1))
                case measure => have := HGK.out; omega
                case rel => exact ⟨k + 1, vals, rfl, by rw [HT2E.out, HTE.out]; first | rfl | (congr 1; omega) | (simp; done) | (simp; omega), by go_num, by omega, HBX.out, by rw [HBFE.out]; exact HRX.out⟩
        · have HCE : Hid (cr = []) := HCR.out.trans (chJ_no hC _ _ _)
          have HIF := Lib.hid (chJ_no hC s row j)
          rw [HIF.out] at hEj hRx
          obtain ⟨ae, ce, hve⟩ := hEj.slice
          rw [hve] at co
          have HRX : Hid (Rows wr (w.heap.size + 1) n (w.heap.size + 1) vals bf1) := by have := hRx; rw [← HB1.out, HCE.out]; exact this
          have HBX := Lib.hid hBx
          have HTE : Hid (T2 = T1) := by show _ = _; rw [HTN.out, HCE.out]; simp
          have hq : x = false ∨ (x = true ∧ (ow == p) = false) := by
            cases x
            · exact .inl rfl
            · exact .inr ⟨rfl, by simpa using hC⟩
          clear hC HIF hEj hve hRx hBx
          have hw1 : IntKind.i64.wrap (T1 : Int) = (T1 : Int) := IntWalk.i64_in _ ⟨by omega, by omega⟩
          rcases hq with rfl | ⟨rfl, hq1⟩
          · go_wp2
            all_goals
              go_roundg (n - (k + 1))
              case measure => have := HGK.out; omega
              case rel => exact ⟨k + 1, vals, rfl, by rw [HT2E.out, HTE.out], by go_num, by omega, HBX.out, by rw [HBFE.out]; exact HRX.out⟩
          · go_wp2
            all_goals
              go_roundg (n - (k + 1))
              case measure => have := HGK.out; omega
              case rel => exact ⟨k + 1, vals, rfl, by rw [HT2E.out, HTE.out], by go_num, by omega, HBX.out, by rw [HBFE.out]; exact HRX.out⟩
    · obtain rfl : n = k := by omega
      have hRL := hR
      rw [bfK_all] at hR
      have hI : Hid (IsRows wr (.slice (some ⟨w.heap.size + 1, 0, none⟩) n n) (chL g p s n)) := hR.is (by omega) fun j hj => by
        rw [chL_at _ _ _ _ _ hj]
        refine ⟨Nat.le_trans (chR_len g p s j 3 (H3.out j)) (by omega), fun y hy => ?_⟩
        unfold chR at hy
        split at hy
        · exact (HR.out j hj).2 y (List.mem_filter.1 hy).1
        · cases hy
      have HB := Lib.hid hB
      clear hR hRL hB
      go_wp2
      go_ret2
      exact ⟨_, rfl, hI.out, HB.out.bl⟩

end Go.Proofs.Ytjhafakkadnfmaa
