/- The statement ArenaWords is proved: the letters' inputs and outputs lead through positions whose least priority is even exactly if the automaton accepts the word. Conditions: none beyond the given row. -/
import Derived.Test.YtjadeffdcbchnaaDoorRows
import Derived.Test.YtjadeffdcbchnaaDoorCards
import Derived.Test.YtjadeffdcbchnaaDoorTie
import Derived.Stop.Joined
import Derived.SevenTiedAt
import Derived.Test.YtjadeffdcbchnaaDoorAr51
import Derived.Test.YtjadeffdcbchnaaDoorArR
namespace Go.Proofs.YtjadeffdcbchnaaDoor
open Go.ChangeShapes Go.WideShapes Go.ChangeAt Go.RowKit Go.Joins Go.Deep

theorem own : ownKnob Tryd.prog.godebug = none := by kernel_rfl
theorem laidOut : laidOutB Tryd.prog = true := by kernel_rfl

set_option maxRecDepth 100000 in
theorem slaw2_lifted (os : Os) (started : os.Started) (H : Type) (enc : TypeId × Value → H) :
    ReturnsInHanded {} Tryd.checked os 8 .any (fun w args => (Rows.arenaWordsSpec.pre enc Tryd.prog Tryd.f8 [] false w args ∧ laidMetH Tryd.prog [("foresight/signal.keys", Rows.laid_foresight_signal_keys)] w) ∧ sizedMet enc Tryd.prog Tryd.f8 (OpenSpec.ofChange Rows.arenaWordsSpec) false w args) (Rows.arenaWordsSpec.post enc Tryd.prog Tryd.f8 false true false false) := by
  refine returnsInHanded_of_change_and (C := Tryd.checked) (X := fun w _ => laidMetH Tryd.prog [("foresight/signal.keys", Rows.laid_foresight_signal_keys)] w) (fun _ _ _ hh h => h.of_heap hh) own started (by kernel_rfl) Tryd.func8
    (ChangeSpec.witness_shaped (enc := enc) (C := Tryd.checked) (os := os) (X := fun w _ => laidMetH Tryd.prog [("foresight/signal.keys", Rows.laid_foresight_signal_keys)] w) false (World.doorLaid Tryd.prog 400 os) #[.slice none 0 0, .agg #[.int .i64 0, .int .i64 0, .slice none 0 0, .slice none 0 0], .agg #[.slice none 0 0, .slice none 0 0]] 8 rfl (World.shaped_of_RefB (by kernel_rfl) (by kernel_rfl)) (by kernel_rfl) (by kernel_rfl) (by kernel_rfl) (door_met os _)) ?_
  intro W base args ds gs before hval0 hW hcnd hsz0 hL _
  have hsz : (DataW.weightsEach Tryd.prog (Tryd.f8.params.toList ++ Rows.arenaWordsSpec.plain.varTypes Tryd.prog) (ds ++ gs)).all (· ≤ reachBytes) = true := hsz0
  have hval : ∀ (j : Nat) t v, Tryd.f8.params[j]? = some t → args[j]? = some v → Value.okWide Tryd.prog W .any base t v := hval0
  have hW' := hW
  obtain ⟨p, q, hA0, hV, rfl, hfz, hnd⟩ := hW
  have hA : DataW.TrodAll enc Tryd.prog W 0 (fun _ => true) true Tryd.f8.params.toList args.toList ds p := hA0
  rw [Tryd.params8] at hA hval hsz
  have hAll := hA
  obtain ⟨vl, rfl⟩ : ∃ l : List Value, args = l.toArray := ⟨args.toList, rfl⟩
  have hz : ∀ (j : Nat) t d, (#[22, 25, 57] : Array TypeId).toList[j]? = some t → ds[j]? = some d → ∀ n ∈ d.weights Tryd.prog t, n ≤ reachBytes := fun j t d h1 h2 n hn => of_decide_eq_true (List.all_eq_true.1 hsz _ (DataW.weights_mem_each (j := j) (by rw [List.getElem?_append_left (List.getElem?_eq_some_iff.1 h1).1]; exact h1) (by rw [List.getElem?_append_left (List.getElem?_eq_some_iff.1 h2).1]; exact h2) n hn))
  simp only at hA
  obtain ⟨v0, t0, d0, e0, p0, q0, hx0, rfl, rfl, h0, hR0⟩ := trodAll_cons hA
  obtain rfl : vl = v0 :: t0 := hx0
  obtain ⟨v1, t1, d1, e1, p1, q1, hx1, rfl, rfl, h1, hR1⟩ := trodAll_cons hR0
  subst hx1
  obtain ⟨v2, t2, d2, e2, p2, q2, hx2, rfl, rfl, h2, hR2⟩ := trodAll_cons hR1
  subst hx2
  obtain ⟨rfl, rfl, rfl⟩ := trodAll_nil hR2
  obtain ⟨rfl, rfl⟩ := trodVars_none hV
  have hlt : ∀ x ∈ (p0 ++ (p1 ++ (p2 ++ []))), x.block < W.heap.size := fun x hx => by simpa using hW'.lt x (by simpa using hx)
  obtain ⟨a0, len0, cap0, rfl⟩ := okWide_slice Tryd.underlying22 (hval 0 22 v0 rfl rfl)
  obtain ⟨fu0, hf0⟩ := h0
  obtain ⟨x0, r0⟩ := read_sigs Tryd.underlying22 hf0 (hz 0 _ _ rfl rfl)
  obtain ⟨x1, r1⟩ := read_auto (hval 1 25 v1 rfl rfl) h1 (hz 1 _ _ rfl rfl)
  obtain ⟨x2, r2⟩ := read_lasso (hval 2 57 v2 rfl rfl) h2 (hz 2 _ _ rfl rfl)
  clear hA0 hval0
  simp only [List.append_nil] at hW'
  refine (Words_walk W _ _ _ x0 x1 x2 (keys_of_laid hL) r0 r1 r2).mono fun e W' ⟨he, bel⟩ => ?_
  subst he
  exact ⟨_, rfl, _, _, _, [], _, [], hW', trodAll_mk1 (shut_bool Tryd.underlying4 _), stays_all laidOut (by kernel_rfl) hAll bel hlt, rfl, bel.frame _, fun h => by cases h⟩

theorem slaw2_row : Rows.ArenaWordsSaid :=
  OpenClaim.holds_of_wide 8 Tryd.f8 rfl rfl rfl rfl rfl rfl rfl ⟨rfl, rfl, rfl, rfl, rfl⟩ rfl rfl rfl rfl rfl (by kernel_rfl) Tryd.func8 (by kernel_rfl)
    (of_decide_eq_true (by kernel_rfl)) (by unfold Func.isWrapper; first | (rw [if_pos (by decide +kernel)]; kernel_rfl) | (rw [if_neg (by decide +kernel)]; exact ⟨rfl, rfl⟩))
    (fun os started H enc _ => slaw2_lifted os started H enc)

theorem slaw2 : Rows.ArenaWordsCardSaid :=
  Claim7.holds_tied_plain_at .later [] [.data] true (true, "44d81c9ad6f1cb258c2553ac94a5c80419459d96889168c85a867c8cb0dc7c2a") false
    slaw2_row (fun _ h => by cases h) (by kernel_rfl) (fun _ h => by cases h) arenaWords_row_tie rfl ⟨rfl, rfl⟩ (by kernel_rfl) rfl
    (fun f fn hf hfn => by
      obtain rfl : f = 8 := Option.some.inj ((show Tryd.prog.funcNamed "foresight/foresightlaw21.ArenaWords" = some 8 by kernel_rfl).symm.trans hf) |>.symm
      obtain rfl : fn = Tryd.f8 := (Option.some.inj (Tryd.func8.symm.trans hfn)).symm
      exact ⟨by kernel_rfl, fun j t ht => by
        rw [Tryd.params8] at ht
        have hm : t ∈ [22, 25, 57] := by simpa using Array.mem_of_getElem? ht
        have hall : ([22, 25, 57].all fun u => !Tryd.prog.wantsStandIn u) = true := by kernel_rfl
        exact (show Tryd.prog.wantsStandIn t = false by simpa using List.all_eq_true.1 hall t hm)⟩)
    (by kernel_rfl)

end Go.Proofs.YtjadeffdcbchnaaDoor
