/- What Prefix computes: the walk. -/
import Derived.Test.YtgjpdnaeldpdeaaWd30
import Derived.Deep.AppendLies
namespace Go.Proofs.Ytgjpdnaeldpdeaa
open Go.RowKit Go.Shelf
attribute [local go_sem] Oper.semAt_some

set_option maxHeartbeats 2000000 in
theorem Prefix_no (w : World) (v : Value) (l : Ls) (i : Int) (hl : IsLs w v l) (hr : prefixI l i = []) (hno : i < 1 ∨ 500 < i ∨ formB l = false) :
    Calls Try.prog 17 #[v, .int .i64 i] w (NewN (prefixI l i) w) := by
  have HF := Lib.hid (fun (W : World) (hW : Below w.heap.size w W) => formed_c W v l (hl.below hW))
  have HR : Hid (∀ W, NewN (prefixI l i) w (.returned (.slice none 0 0)) W ↔ Below w.heap.size w W) := fun W => by
    rw [hr]
    exact ⟨fun ⟨_, _, _, h⟩ => h, fun h => ⟨_, rfl, ints_nil _, h⟩⟩
  clear hr
  generalize prefixI l i = r at *
  obtain ⟨v0, v1, rfl, h0, h1⟩ := hl
  obtain ⟨⟨a0, c0, b0, o0, rfl, g0⟩, -⟩ := h0
  obtain ⟨⟨a1, c1, b1, o1, rfl, g1⟩, -⟩ := h1
  clear g0 g1
  by_cases h1 : i < 1
  · have d1 : decide (i < 1) = true := decide_eq_true h1
    clear hno
    go_enter Try.func17, Try.ntmps17
    go_wp2
    go_ret
    exact (HR.out _).2 (by repeat (first | exact Below.refl _ _ | assumption | (refine belA ?_ _) | (refine belD ?_ _)))
  by_cases h2 : 500 < i
  · have d1 : decide (i < 1) = false := decide_eq_false h1
    have d2 : decide (500 < i) = true := decide_eq_true h2
    clear hno
    go_enter Try.func17, Try.ntmps17
    go_wp2
    go_ret
    exact (HR.out _).2 (by repeat (first | exact Below.refl _ _ | assumption | (refine belA ?_ _) | (refine belD ?_ _)))
  have hf : formB l = false := by rcases hno with h | h | h; exact absurd h h1; exact absurd h h2; exact h
  have d1 : decide (i < 1) = false := decide_eq_false h1
  have d2 : decide (500 < i) = false := decide_eq_false h2
  rw [hf] at HF
  clear hno hf
  go_enter Try.func17, Try.ntmps17
  go_wp2_with fail
  refine (HF.out _ (by repeat (first | exact Below.refl _ _ | assumption | (refine belA ?_ _) | (refine belD ?_ _)))).mono ?_
  rintro e w2 ⟨rfl, hb2⟩
  go_wp2
  go_ret
  exact (HR.out _).2 ((belA (bel_box _) _).trans (hb2.mono (by simp; omega)))

set_option maxRecDepth 100000 in
set_option maxHeartbeats 4000000 in
theorem Prefix_yes (w : World) (v : Value) (l : Ls) (n : Nat) (hl : IsLs w v l) (h1 : 1 ≤ n) (h2 : n ≤ 500) (hf : formB l = true) :
    Calls Try.prog 17 #[v, .int .i64 (n : Int)] w (NewN (prefixL l n) w) := by
  have HF := Lib.hid (fun (W : World) (hW : Below w.heap.size w W) => formed_c W v l (hl.below hW))
  rw [hf] at HF
  obtain ⟨s1, s2, s3⟩ := formB_short hf
  have HL := Lib.hid hl
  have HI : Hid (∀ x ∈ prefixL l n, I64 x) := fun x hx => by
    obtain ⟨j, _, rfl⟩ := List.mem_map.1 hx
    have := (letters_iff (form_pos hf)).1 ⟨((formB_iff l).1 hf).2.2.2.1, ((formB_iff l).1 hf).2.2.2.2⟩ j
    exact letB_I64 this
  obtain ⟨v0, v1, rfl, h0, h1'⟩ := hl
  obtain ⟨⟨a0, c0, b0, o0, rfl, g0⟩, -⟩ := h0
  obtain ⟨⟨a1, c1, b1, o1, rfl, g1⟩, -⟩ := h1'
  clear g0 g1 hf
  have d1 : decide (((n : Nat) : Int) < 1) = false := decide_eq_false (by omega)
  have d2 : decide (500 < ((n : Nat) : Int)) = false := decide_eq_false (by omega)
  have d3 : decide (n < 1) = false := decide_eq_false (by omega)
  have d4 : decide (500 < n) = false := decide_eq_false (by omega)
  obtain ⟨ii, hii, hz0, hz1, hz2⟩ := info_parts info_int
  refine callsIn_wide (n := 5) |>.1 ?_
  refine callsIn_of_wp_marks Try.func17 rfl trivial ?_
  simp only [Try.ntmps17, List.size_toArray, List.length_cons, List.length_nil, Nat.reduceAdd, Nat.reduceSub, Array.replicate_succ, Array.replicate_zero, List.push_toArray, List.append_toArray, List.nil_append, List.cons_append]
  gi_wp2_with fail
  refine ⟨trivial, ?_⟩
  refine (callsIn_wide.2 (HF.out _ (by repeat (first | exact Below.refl _ _ | assumption | (refine belA ?_ _) | (refine belD ?_ _))))).mono ?_
  rintro e w2 ⟨rfl, hb2⟩
  have hB2 : Below w.heap.size w w2 := (belA (bel_box _) _).trans (hb2.mono (by simp; omega))
  have rA : w2.heap[w.heap.size]? = some (Obj.cells #[Value.slice a0 l.stem.length c0, Value.slice a1 l.loop.length c1] 24 (0, 0)) := (hb2.block _ (by simp; omega)).trans ((heap_alloc_old _ _ (by simp)).trans (heap_alloc_new _ _))
  have rB : w2.heap[w.heap.size + 1]? = some (Obj.cells #[Value.int .i64 (n : Int)] 3 (0, 0)) := (hb2.block _ (by simp)).trans (by have := heap_alloc_new (w.alloc (Obj.cells #[Value.slice a0 l.stem.length c0, Value.slice a1 l.loop.length c1] 24)) (Obj.cells #[Value.int .i64 (n : Int)] 3); simpa using this)
  clear hb2 d1 d2 d3 d4 HF
  have k2 : w2.cell? ⟨w.heap.size + 1, 0, none⟩ = some (.int .i64 (n : Int)) := cell_of_row _ _ 0 _ _ _ rB
  have hz2' : w.heap.size + 2 ≤ w2.heap.size := by have := (Array.getElem?_eq_some_iff.1 rB).1; omega
  gi_upto_region 4 with (refine wpListIn_make_own _ rfl _ _ _ rfl w.heap.size 3 ii _ 1 Try.underlying22 hii hz0 hz1 .i64 .i64 (n : Int) n rfl rfl rfl (by rw [hz2]; omega) (by unfold maxLen; omega) hB2.size ?_; intro w3 hown3 hg3; have HO3 := Lib.hid hown3; have HG3 := Lib.hid hg3; clear hown3 hg3)
  have O3 : OI w3 w.heap.size (.slice (some ⟨w2.heap.size, 0, none⟩) 0 n) (prefixL l 0) := HO3.out
  have hg2 : w2.heap.size < w3.heap.size := (World.ownsRow.lt HO3.out _ rfl).2
  have hB3 : Below w.heap.size w w3 := hB2.grown HG3.out hB2.size (fun g h => by cases h)
  have hbb : Below w2.heap.size w2 w3 := (Below.refl _ _).grown HG3.out (Nat.le_refl _) (fun g h => by cases h)
  have rA3 := (hbb.block _ (by omega : w.heap.size < w2.heap.size)).trans rA
  have rB3 := (hbb.block _ (by omega : w.heap.size + 1 < w2.heap.size)).trans rB
  have hPI : PI w l n w3.heap.size w2.heap.size 0 (w3.alloc (Obj.cells #[Value.slice (some ⟨w2.heap.size, 0, none⟩) 0 n] 22)) :=
    ⟨belA hB3 _ |>.trans (Below.refl _ _), (heap_alloc_old _ _ (by omega)).trans rB3, heap_alloc_new _ _, World.ownsRow.alloc O3 _⟩
  have rA4 : (w3.alloc (Obj.cells #[Value.slice (some ⟨w2.heap.size, 0, none⟩) 0 n] 22)).heap[w.heap.size]? = _ := (heap_alloc_old _ _ (by omega)).trans rA3
  have hz4 : (w3.alloc (Obj.cells #[Value.slice (some ⟨w2.heap.size, 0, none⟩) 0 n] 22)).heap.size = w3.heap.size + 1 := by simp
  clear rA rB rA3 rB3 hbb hB3 hB2 HO3 HG3 O3 k2
  generalize (w3.alloc (Obj.cells #[Value.slice (some ⟨w2.heap.size, 0, none⟩) 0 n] 22)) = w4 at *
  generalize w2.heap.size = g at *
  generalize w3.heap.size = bo at *
  obtain ⟨k0, k1, -, -⟩ := boxF rA4
  gi_wp2_with fail
  refine ⟨trivial, ?_⟩
  refine (callsIn_wide.2 (letters_c _ _ _)).mono ?_
  rintro e w5 ⟨rfl, hw5⟩
  have hbx : Below w4.heap.size w4 w5 := by rw [hw5]; exact bel_box _
  have hBs : w5.heap[w4.heap.size]? = some (.cells #[.slice a0 l.stem.length c0, .slice a1 l.loop.length c1] 24 (0, 0)) := by rw [hw5]; exact heap_alloc_new _ _
  have hP5 : PI w l n bo g 0 w5 := hPI.grown (row := none) (by rw [hw5]; exact World.grownBy_alloc _ _ none) (fun r e => by cases e)
  have hz5 : w5.heap.size = w4.heap.size + 1 := by rw [hw5]; simp
  clear hw5 rA4 k0 k1 hbx hPI
  have hBs2 := hBs
  rw [hz4] at hBs2
  have HStops := letters_stops (5 - 1) n (bo + 1) (by omega) a0 a1 c0 c1 l w w5 HL.out hP5.bl hBs2 (by omega) (by omega) (by omega)
  have hws : w.heap.size ≤ w5.heap.size := hP5.bl.size
  gi_wp2_with fail
  refine wpIn_rangeFunc_idx rfl (by omega) (gf := 48) (lb := #[.pointer (some ⟨bo + 1, 0, none⟩)]) rfl trivial (enters_of Try.func48 (by kernel_rfl) rfl)
    HStops (by omega) KpL.trans (KpL.put hws) (Below.refl _ _) (fun _ => rfl)
    (fun k W => PI w l n bo g k W) (fun c k W => PI w l n bo g n W ∧ c = .exit 0)
    (PI.own hws) (fun k A B h _ hg => h.grown hg (fun r e => by cases e; omega))
    (fun c s W W' row h hg hr => ⟨PI.own (l := l) (n := n) (bo := bo) (g := g) hws n W W' row h.1 hg hr, h.2⟩)
    hP5 ?a1 ?assign ?body ?stop
  case assign =>
    intro lY k W K hK
    unfold encL
    gi_wp2
    exact hK
  case body =>
    rintro lY k W hI hsz hk
    have hd : 1 ≤ 5 - 1 - 1 := by omega
    have q0 : W.cell? ⟨bo, 0, none⟩ = some (.slice (some ⟨g, 0, none⟩) k n) := cell_of_row _ _ 0 _ _ _ hI.ob
    have qf : W.frozen? ⟨bo, 0, none⟩ = false := frozen_of_row _ _ 0 _ _ hI.ob
    have q1 : W.cell? ⟨w.heap.size + 1, 0, none⟩ = some (.int .i64 (n : Int)) := cell_of_row _ _ 0 _ _ _ hI.nb
    have hbo : bo < W.heap.size := (Array.getElem?_eq_some_iff.1 hI.ob).1
    have hRow : Hid ((W.alloc (.cells #[.int .i64 (atL l k)] 3)).ownsRow w.heap.size 3 1 (.slice (some ⟨g, 0, none⟩) k n) k ((prefixL l k).map (Value.int .i64))) := by
      have := World.ownsRow.alloc hI.row (.cells #[.int .i64 (atL l k)] 3)
      rwa [prefixL_len] at this
    have HNew : Hid (∀ j u, [Value.int .i64 (atL l k)][j]? = some u → (W.alloc (.cells #[.int .i64 (atL l k)] 3)).cell? ((⟨W.heap.size, 0, none⟩ : Addr).add j) = some u) := cell_one_new _ _ _
    have HI2 := Lib.hid hI
    have HSucc := Lib.hid (prefixL_succ l k)
    have HLen := Lib.hid (prefixL_len l (k + 1))
    clear hI
    generalize atL l k = x at *
    gi_upto_region 7 with (refine wpListIn_append_fits _ rfl _ _ _ rfl w.heap.size 3 ii 1 Try.underlying22 hii hz1 g k n _ rfl hRow.out ⟨W.heap.size, 0, none⟩ 1 1 [.int .i64 x] rfl rfl HNew.out (by simp [Value.oneCell']) (by omega) ?_; intro w6 hown6 hg6; have HP6 := Lib.hid (HI2.out.push (by omega) (by omega) (by omega) (show OI w6 w.heap.size _ _ by unfold OI; rw [HLen.out, HSucc.out]; simpa using hown6) hg6); have q0 : w6.cell? ⟨bo, 0, none⟩ = some (.slice (some ⟨g, 0, none⟩) k n) := (hg6.cell_far ⟨bo, 0, none⟩ (by simp; omega) (by simp; omega)).trans (cellB (bel_box _) q0); have qf : w6.frozen? ⟨bo, 0, none⟩ = false := (hg6.frozen_far ⟨bo, 0, none⟩ (by simp; omega) (by simp; omega)).trans ((bel_box _).frozen (p := ⟨bo, 0, none⟩) hbo |>.trans qf); clear hown6 hg6)
    have p0 := cell_of_row _ _ 0 _ _ _ HP6.out.1.ob
    have p1 := cell_of_row _ _ 0 _ _ _ HP6.out.1.nb
    obtain ⟨W7, hW7⟩ : ∃ W7, w6.setCell ⟨bo, 0, none⟩ (.slice (some ⟨g, 0, none⟩) (k + 1) n) = W7 := ⟨_, rfl⟩
    rw [hW7] at HP6 p0 p1 ⊢
    obtain ⟨hP7, hO7⟩ := HP6.out
    have HO7 := Lib.hid hO7
    obtain ⟨cs, hgc⟩ := HI2.out.row.blk
    have HK := Lib.hid (hO7.keepsFrom (B := w5.heap.size) hgc HI2.out.ob)
    have HKp := Lib.hid (hO7.kpL (n₀ := w.heap.size) (z := w5.heap.size + 2) HI2.out.bl.size (by omega) (by omega) (by omega) (by omega) (by omega))
    have HP7 := Lib.hid hP7
    clear hP7 hO7 HO7 q0 q1 qf hgc hRow HNew hW7
    by_cases hkn : k + 1 = n
    · have hq : (((k : Nat) : Int) + 1 == (n : Int)) = true := by simp; omega
      have HKN := Lib.hid hkn
      clear hkn
      gi_wp2
      exact ⟨HK.out, by have := HP7.out; rw [HKN.out] at this; exact this, rfl⟩
    · have hq : (((k : Nat) : Int) + 1 == (n : Int)) = false := by simp; omega
      have hkn2 : k + 1 < n := by omega
      clear hkn
      gi_wp2
      exact ⟨HK.out, HKp.out, hkn2, HP7.out⟩
  case stop =>
    rintro D c k W hD ⟨hI, rfl⟩ hK
    have hDb : bo ≠ D := fun e => by have := hI.ob; rw [e, hK] at this; cases this
    have hP := hI.grown (grownBy_putObj' W D (.deferred none)) (fun r e => by
      cases e
      refine ⟨by omega, ?_, fun e => hDb e.symm, ?_⟩
      · rintro rfl; have := hI.nb; rw [hK] at this; cases this
      · rintro rfl; obtain ⟨cs, h⟩ := hI.row.blk; rw [hK] at h; cases h)
    have q0 : W.cell? ⟨bo, 0, none⟩ = some (.slice (some ⟨g, 0, none⟩) n n) := cell_of_row _ _ 0 _ _ _ hI.ob
    have HP := Lib.hid hP
    clear hI hP
    gi_wp2
    refine ⟨by simp, .inl ⟨_, _, rfl, run_takeDeferred hK, ?_⟩⟩
    refine ⟨.slice (some ⟨g, 0, none⟩) n n, by simp [results, Try.results17, go_sem], _, rfl, ?_, HP.out.bl⟩
    have := HP.out.row.is (by rw [prefixL_len]; unfold maxN; omega) HI.out
    exact this

theorem Prefix_c (w : World) (v : Value) (l : Ls) (i : Int) (hl : IsLs w v l) : Calls Try.prog 17 #[v, .int .i64 i] w (NewN (prefixI l i) w) := by
  by_cases h1 : i < 1
  · exact Prefix_no w v l i hl (prefixI_low h1) (.inl h1)
  by_cases h2 : 500 < i
  · exact Prefix_no w v l i hl (prefixI_high h2) (.inr (.inl h2))
  by_cases hf : formB l = true
  · obtain ⟨n, rfl⟩ : ∃ n : Nat, i = n := ⟨i.toNat, by omega⟩
    rw [prefixI_nat hf (by omega) (by omega)]
    exact Prefix_yes w v l n hl (by omega) (by omega) hf
  · rw [Bool.not_eq_true] at hf
    exact Prefix_no w v l i hl (prefixI_not hf) (.inr (.inr hf))

end Go.Proofs.Ytgjpdnaeldpdeaa
