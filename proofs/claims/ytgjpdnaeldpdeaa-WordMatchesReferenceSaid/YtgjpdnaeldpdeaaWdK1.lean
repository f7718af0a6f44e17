/- The statement WordMatchesReference is proved: for all lassos, numbers, letters and tables, all functions of the package agree with the reference. Conditions: none beyond the given row. -/
import Derived.Test.YtgjpdnaeldpdeaaRows
import Derived.Test.YtgjpdnaeldpdeaaWd43
import Derived.Test.YtgjpdnaeldpdeaaWdS
namespace Go.Proofs.Ytgjpdnaeldpdeaa
open Go.ChangeShapes Go.WideShapes Go.ChangeAt Go.RowKit Go.Joins Go.Deep

theorem own : ownKnob Try.prog.godebug = none := by kernel_rfl
theorem laidOut : laidOutB Try.prog = true := by kernel_rfl

set_option maxRecDepth 100000 in
theorem wlaw1_lifted (os : Os) (started : os.Started) (H : Type) (enc : TypeId × Value → H) :
    ReturnsInHanded {} Try.checked os 3 .any (Rows.wordMatchesReferenceSpec.pre6 enc Try.prog Try.f3 Rows.wordMatchesReferenceRow.domain false) (Rows.wordMatchesReferenceSpec.post enc Try.prog Try.f3 false true false false) := by
  refine returnsInHanded_of_change_sized (C := Try.checked) own started (by kernel_rfl) Try.func3
    (ChangeSpec.witness6 (enc := enc) (C := Try.checked) false ⟨#[], #[.agg #[.slice none 0 0, .slice none 0 0], .agg #[.slice none 0 0, .slice none 0 0], .int .i64 0, .int .i64 0, .slice none 0 0, .slice none 0 0], []⟩ 8 (by kernel_rfl) (by kernel_rfl) (by kernel_rfl) (by kernel_rfl)) ?_
  intro W base args ds gs before hval0 hW hcnd hsz0 _
  have hsz : (DataW.weightsEach Try.prog (Try.f3.params.toList ++ Rows.wordMatchesReferenceSpec.plain.varTypes Try.prog) (ds ++ gs)).all (· ≤ reachBytes) = true := hsz0
  have hval : ∀ (j : Nat) t v, Try.f3.params[j]? = some t → args[j]? = some v → Value.okWide Try.prog W .any base t v := hval0
  have hW' := hW
  obtain ⟨p, q, hA0, hV, rfl, hfz, hnd⟩ := hW
  have hA : DataW.TrodAll enc Try.prog W 0 (fun _ => true) true Try.f3.params.toList args.toList ds p := hA0
  rw [Try.params3] at hA hval hsz
  have hAll := hA
  obtain ⟨vl, rfl⟩ : ∃ l : List Value, args = l.toArray := ⟨args.toList, rfl⟩
  have hz : ∀ (j : Nat) t d, (#[24, 24, 3, 3, 22, 25] : Array TypeId).toList[j]? = some t → ds[j]? = some d → ∀ n ∈ d.weights Try.prog t, n ≤ reachBytes := fun j t d h1 h2 n hn => of_decide_eq_true (List.all_eq_true.1 hsz _ (DataW.weights_mem_each (j := j) (by rw [List.getElem?_append_left (List.getElem?_eq_some_iff.1 h1).1]; exact h1) (by rw [List.getElem?_append_left (List.getElem?_eq_some_iff.1 h2).1]; exact h2) n hn))
  simp only at hA
  obtain ⟨v0, t0, d0, e0, p0, q0, hx0, rfl, rfl, h0, hR0⟩ := trodAll_cons hA
  obtain rfl : vl = v0 :: t0 := hx0
  obtain ⟨v1, t1, d1, e1, p1, q1, hx1, rfl, rfl, h1, hR1⟩ := trodAll_cons hR0
  subst hx1
  obtain ⟨v2, t2, d2, e2, p2, q2, hx2, rfl, rfl, h2, hR2⟩ := trodAll_cons hR1
  subst hx2
  obtain ⟨v3, t3, d3, e3, p3, q3, hx3, rfl, rfl, h3, hR3⟩ := trodAll_cons hR2
  subst hx3
  obtain ⟨v4, t4, d4, e4, p4, q4, hx4, rfl, rfl, h4, hR4⟩ := trodAll_cons hR3
  subst hx4
  obtain ⟨v5, t5, d5, e5, p5, q5, hx5, rfl, rfl, h5, hR5⟩ := trodAll_cons hR4
  subst hx5
  obtain ⟨rfl, rfl, rfl⟩ := trodAll_nil hR5
  obtain ⟨rfl, rfl⟩ := trodVars_none hV
  have hlt : ∀ x ∈ (p0 ++ (p1 ++ (p2 ++ (p3 ++ (p4 ++ (p5 ++ [])))))), x.block < W.heap.size := fun x hx => by simpa using hW'.lt x (by simpa using hx)
  obtain ⟨x0, r0⟩ := read_lasso (hval 0 24 v0 rfl rfl) h0 (hz 0 _ _ rfl rfl)
  obtain ⟨x1, r1⟩ := read_lasso (hval 1 24 v1 rfl rfl) h1 (hz 1 _ _ rfl rfl)
  obtain ⟨n2, rfl, rfl, rfl, wn2⟩ := open_int Try.underlying3 (hval 2 3 v2 rfl rfl) h2
  obtain ⟨n3, rfl, rfl, rfl, wn3⟩ := open_int Try.underlying3 (hval 3 3 v3 rfl rfl) h3
  obtain ⟨a4, len4, cap4, rfl⟩ := okWide_slice Try.underlying22 (hval 4 22 v4 rfl rfl)
  obtain ⟨fu4, hf4⟩ := h4
  obtain ⟨x4, r4⟩ := read_ints Try.underlying22 hf4 (hz 4 _ _ rfl rfl)
  obtain ⟨a5, len5, cap5, rfl⟩ := okWide_slice Try.underlying25 (hval 5 25 v5 rfl rfl)
  obtain ⟨fu5, hf5⟩ := h5
  obtain ⟨x5, r5⟩ := read_rows Try.underlying25 hf5 (hz 5 _ _ rfl rfl)
  clear hA0 hval0
  simp only [List.append_nil] at hW'
  refine (Match_w W _ _ _ _ x0 x1 n2 n3 x4 x5 r0 r1 (wf_i64 wn3) r4 r5).mono fun e W' ⟨he, bel⟩ => ?_
  subst he
  exact ⟨_, rfl, _, _, _, [], _, [], hW', trodAll_mk1 (shut_bool Try.underlying4 _), stays_all laidOut (by kernel_rfl) hAll bel hlt, rfl, bel.frame _, fun h => by cases h⟩

theorem wlaw1 : Rows.WordMatchesReferenceSaid :=
  OpenClaim.holds_of_wide 3 Try.f3 rfl rfl rfl rfl rfl rfl rfl ⟨rfl, rfl, rfl, rfl, rfl⟩ rfl rfl rfl rfl rfl (by kernel_rfl) Try.func3 (by kernel_rfl)
    (of_decide_eq_true (by kernel_rfl)) (by unfold Func.isWrapper; first | (rw [if_pos (by decide +kernel)]; kernel_rfl) | (rw [if_neg (by decide +kernel)]; exact ⟨rfl, rfl⟩))
    (fun os started H enc _ => wlaw1_lifted os started H enc)

end Go.Proofs.Ytgjpdnaeldpdeaa
