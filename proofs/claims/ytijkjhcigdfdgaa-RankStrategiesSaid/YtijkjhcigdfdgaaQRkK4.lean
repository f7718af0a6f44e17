/- The statement RankStrategies is proved: for every well-formed game, player and progress measure, from a position that is not top, each move that Choose permits and each move of the other player leads to positions that are not top, and no cycle of such moves has a least priority of the other player's parity. Conditions: none beyond the given row. -/
import Derived.Test.YtijkjhcigdfdgaaRows
import Derived.Test.YtijkjhcigdfdgaaQRkA13
import Derived.Test.YtijkjhcigdfdgaaQR
namespace Go.Proofs.Ytijkjhcigdfdgaa
open Go.ChangeShapes Go.WideShapes Go.ChangeAt Go.RowKit Go.Joins Go.Deep

theorem own_knob : ownKnob Try.prog.godebug = none := by kernel_rfl
theorem laidOut : laidOutB Try.prog = true := by kernel_rfl

set_option maxRecDepth 100000 in
theorem rklaw4_lifted (os : Os) (started : os.Started) (H : Type) (enc : TypeId × Value → H) :
    ReturnsInHanded {} Try.checked os 6 .any (Rows.rankStrategiesSpec.pre6 enc Try.prog Try.f6 Rows.rankStrategiesRow.domain false) (Rows.rankStrategiesSpec.post enc Try.prog Try.f6 false true false false) := by
  refine returnsInHanded_of_change_sized (C := Try.checked) own_knob started (by kernel_rfl) Try.func6
    (ChangeSpec.witness6 (enc := enc) (C := Try.checked) false ⟨#[], #[.agg #[.slice none 0 0, .slice none 0 0, .slice none 0 0], .int .u8 0, .slice none 0 0], []⟩ 8 (by kernel_rfl) (by kernel_rfl) (by kernel_rfl) (by kernel_rfl)) ?_
  intro W base args ds gs before hval0 hW hcnd hsz0 _
  have hsz : (DataW.weightsEach Try.prog (Try.f6.params.toList ++ Rows.rankStrategiesSpec.plain.varTypes Try.prog) (ds ++ gs)).all (· ≤ reachBytes) = true := hsz0
  have hval : ∀ (j : Nat) t v, Try.f6.params[j]? = some t → args[j]? = some v → Value.okWide Try.prog W .any base t v := hval0
  have hW' := hW
  obtain ⟨p, q, hA0, hV, rfl, hfz, hnd⟩ := hW
  have hA : DataW.TrodAll enc Try.prog W 0 (fun _ => true) true Try.f6.params.toList args.toList ds p := hA0
  rw [Try.params6] at hA hval hsz
  have hAll := hA
  obtain ⟨vl, rfl⟩ : ∃ l : List Value, args = l.toArray := ⟨args.toList, rfl⟩
  have hz : ∀ (j : Nat) t d, (#[25, 5, 23] : Array TypeId).toList[j]? = some t → ds[j]? = some d → ∀ n ∈ d.weights Try.prog t, n ≤ reachBytes := fun j t d h1 h2 n hn => of_decide_eq_true (List.all_eq_true.1 hsz _ (DataW.weights_mem_each (j := j) (by rw [List.getElem?_append_left (List.getElem?_eq_some_iff.1 h1).1]; exact h1) (by rw [List.getElem?_append_left (List.getElem?_eq_some_iff.1 h2).1]; exact h2) n hn))
  simp only at hA
  obtain ⟨v0, t0, d0, e0, p0, q0, hx0, rfl, rfl, h0, hR0⟩ := trodAll_cons hA
  obtain rfl : vl = v0 :: t0 := hx0
  obtain ⟨v1, t1, d1, e1, p1, q1, hx1, rfl, rfl, h1, hR1⟩ := trodAll_cons hR0
  subst hx1
  obtain ⟨v2, t2, d2, e2, p2, q2, hx2, rfl, rfl, h2, hR2⟩ := trodAll_cons hR1
  subst hx2
  obtain ⟨rfl, rfl, rfl⟩ := trodAll_nil hR2
  obtain ⟨rfl, rfl⟩ := trodVars_none hV
  have hlt : ∀ x ∈ (p0 ++ (p1 ++ (p2 ++ []))), x.block < W.heap.size := fun x hx => by simpa using hW'.lt x (by simpa using hx)
  obtain ⟨x0, r0⟩ := read_game (hval 0 25 v0 rfl rfl) h0 (hz 0 _ _ rfl rfl)
  obtain ⟨n1, rfl, rfl, rfl, wn1⟩ := open_int Try.underlying5 (hval 1 5 v1 rfl rfl) h1
  obtain ⟨a2, len2, cap2, rfl⟩ := okWide_slice Try.underlying23 (hval 2 23 v2 rfl rfl)
  obtain ⟨fu2, hf2⟩ := h2
  obtain ⟨x2, r2⟩ := read_rows Try.underlying23 hf2 (hz 2 _ _ rfl rfl)
  clear hA0 hval0
  simp only [List.append_nil] at hW'
  refine (Strat_walk W _ _ x0 n1 x2 r0 (wf_u8 wn1) r2).mono fun e W' ⟨he, bel⟩ => ?_
  subst he
  exact ⟨_, rfl, _, _, _, [], _, [], hW', trodAll_mk1 (shut_bool Try.underlying4 _), stays_all laidOut (by kernel_rfl) hAll bel hlt, rfl, bel.frame _, fun h => by cases h⟩

theorem rklaw4 : Rows.RankStrategiesSaid :=
  OpenClaim.holds_of_wide 6 Try.f6 rfl rfl rfl rfl rfl rfl rfl ⟨rfl, rfl, rfl, rfl, rfl⟩ rfl rfl rfl rfl rfl (by kernel_rfl) Try.func6 (by kernel_rfl)
    (of_decide_eq_true (by kernel_rfl)) (by unfold Func.isWrapper; first | (rw [if_pos (by decide +kernel)]; kernel_rfl) | (rw [if_neg (by decide +kernel)]; exact ⟨rfl, rfl⟩))
    (fun os started H enc _ => rklaw4_lifted os started H enc)

end Go.Proofs.Ytijkjhcigdfdgaa
