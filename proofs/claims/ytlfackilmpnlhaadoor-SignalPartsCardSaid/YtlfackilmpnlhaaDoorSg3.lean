/- What the two functions Valid compute. -/
import Derived.Test.YtlfackilmpnlhaaDoorSg2
import Derived.Deep.CutBlock
namespace Go.Proofs.YtlfackilmpnlhaaDoor
open Go.RowKit

/-- The product of the sizes. -/
def prodL : List Sig → Int
  | [] => 1
  | s :: r => s.size * prodL r

theorem prodL_snoc (l : List Sig) (s : Sig) : prodL (l ++ [s]) = prodL l * s.size := by
  induction l with
  | nil => simp [prodL]
  | cons a l ih => simp only [List.cons_append, prodL, ih, Int.mul_assoc]

theorem prodL_take {l : List Sig} {k : Nat} (h : k < l.length) : prodL (l.take (k + 1)) = prodL (l.take k) * l[k].size := by
  rw [List.take_succ_eq_append_getElem h, prodL_snoc]

def sizeB (s : Sig) : Bool := decide (2 ≤ s.size) && decide (s.size ≤ 4)
/-- No earlier signal bears this name. -/
def newB (l : List Sig) (i : Nat) : Bool := (List.range i).all fun k => !((l.getD k sig0).name.toList == (l.getD i sig0).name.toList)
def sigB (l : List Sig) (i : Nat) : Bool := nameB (l.getD i sig0).name && sizeB (l.getD i sig0) && newB l i
def allB (l : List Sig) (k : Nat) : Bool := (List.range k).all (sigB l)
/-- Signals are well-formed. -/
def validS (l : List Sig) : Bool := decide (1 ≤ l.length) && decide (l.length ≤ 6) && allB l l.length && decide (prodL l ≤ 64)

theorem pow4 {k : Nat} (h : k ≤ 6) : (4 : Int) ^ k ≤ 4096 := by
  match k, h with
  | 0, _ => decide
  | 1, _ => decide
  | 2, _ => decide
  | 3, _ => decide
  | 4, _ => decide
  | 5, _ => decide
  | 6, _ => decide

theorem prodL_bd (l : List Sig) (h : ∀ s ∈ l, sizeB s = true) : 1 ≤ prodL l ∧ prodL l ≤ 4 ^ l.length := by
  induction l with
  | nil => simp [prodL]
  | cons a l ih =>
    obtain ⟨h1, h2⟩ := ih (fun s hs => h s (List.mem_cons_of_mem _ hs))
    have ha := h a List.mem_cons_self
    simp only [sizeB, Bool.and_eq_true, decide_eq_true_eq] at ha
    rw [prodL, List.length_cons, Int.pow_succ]
    refine ⟨?_, ?_⟩
    · have := Int.mul_le_mul (show (1 : Int) ≤ a.size by omega) h1 (by omega) (by omega); omega
    · rw [Int.mul_comm (4 ^ l.length) 4]
      exact Int.mul_le_mul ha.2 h2 (by omega) (by omega)

theorem allB_mem {l : List Sig} {k : Nat} (h : allB l k = true) (hk : k ≤ l.length) : ∀ s ∈ l.take k, sizeB s = true := fun s hs => by
  obtain ⟨j, hj, rfl⟩ := List.getElem_of_mem hs
  rw [List.length_take] at hj
  have := List.all_eq_true.1 h j (List.mem_range.2 (by omega))
  simp only [sigB, Bool.and_eq_true] at this
  rw [List.getElem_take]
  have e := this.1.2
  rwa [getD_lt _ _ _ (by omega)] at e

theorem prod_step {l : List Sig} {k : Nat} (h : allB l k = true) (hk : k < l.length) (h6 : l.length ≤ 6) (hs : sizeB l[k] = true) :
    (1 ≤ prodL (l.take k) ∧ prodL (l.take k) ≤ 4096) ∧ IntKind.i64.wrap (prodL (l.take k) * l[k].size) = prodL (l.take (k + 1)) := by
  have h1 := prodL_bd _ (allB_mem h (by omega))
  have h2 : prodL (l.take k) ≤ 4096 := by
    exact Int.le_trans h1.2 (pow4 (by rw [List.length_take]; omega))
  refine ⟨⟨h1.1, h2⟩, ?_⟩
  rw [prodL_take hk]
  simp only [sizeB, Bool.and_eq_true, decide_eq_true_eq] at hs
  refine IntWalk.i64_in _ ⟨?_, ?_⟩
  · have := Int.mul_nonneg (show 0 ≤ prodL (l.take k) by omega) (show 0 ≤ l[k].size by omega); omega
  · have := Int.mul_le_mul h2 hs.2 (by omega) (by omega); omega

theorem allB_succ (l : List Sig) (k : Nat) : allB l (k + 1) = (allB l k && sigB l k) := range_all_succ _ _
theorem allB_false {l : List Sig} {n k : Nat} (h : k < n) (hs : sigB l k = false) : allB l n = false := range_all_false _ _ _ h hs


set_option maxRecDepth 100000 in
set_option maxHeartbeats 4000000 in
theorem SValid_c (w : World) (vl : Value) (l : List Sig) (hK : Keys w) (hl : IsSigs w vl l) :
    Calls Tryd.prog 13 #[vl] w (Quiet (.bool (validS l)) w) := by
  obtain ⟨ao, cap, b, off, rfl, hl⟩ := hl
  have hn := hl.nb
  by_cases h1 : (l.length : Int) < 1
  · go_enter Tryd.func13, Tryd.ntmps13
    go_wp2
    go_step3
    go_wp2
    (try rw [Exit.noGoto_ret])
    go_ret
    exact ⟨ret_bool (by simp [validS]; omega), 0, rfl⟩
  have h3 : (1 : Int) ≤ l.length := by omega
  by_cases h2 : (6 : Int) < l.length
  · clear h1
    go_enter Tryd.func13, Tryd.ntmps13
    go_wp2
    go_step3
    go_wp2
    (try rw [Exit.noGoto_ret])
    go_ret
    exact ⟨ret_bool (by simp [validS]; omega), 0, rfl⟩
  have h4 : (l.length : Int) ≤ 6 := by omega
  have hN : Hid (∀ (W : World) (s : ByteArray), Below w.heap.size w W → s.size ≤ maxN → Calls Tryd.prog 15 #[.string s] W fun e w' => e = .returned (.bool (nameB s)) ∧ W = w') := fun W s hW h => Name_c W s (hK.below hW) h
  have HSN : Hid (∀ j (h : j < l.length), l[j].name.size ≤ maxN) := fun j h => hl.sn _ (List.getElem_mem h)
  clear h1 h2 hK
  go_enter Tryd.func13, Tryd.ntmps13
  go_wp2
  go_step3
  go_wp2
  go_step3
  go_upto_block 0 with (fail)
  go_cut [3, 4] (fun ok pr wx => (∃ n, wx = w.drewN n) ∧ ok = .bool (allB l l.length) ∧ ∃ p, pr = .int .i64 p ∧ Hid (allB l l.length = true → p = prodL l))
  case first =>
    go_wp2
    go_loopg [3, 4, 17] l.length (fun gh ok pr i wr => ∃ k n : Nat, gh = l.length - k ∧ i = .int .i64 k ∧ ok = .bool true ∧ pr = .int .i64 (prodL (l.take k)) ∧ k ≤ l.length ∧ Hid (allB l k = true) ∧ wr = w.drewN n)
    case atStart => exact ⟨0, 0, rfl, rfl, rfl, rfl, by omega, rfl, rfl⟩
    case round =>
      obtain ⟨k, n, hgk, rfl, rfl, rfl, hk, HE, rfl⟩ := hrel
      have HG := Lib.hid hgk
      clear hgk
      by_cases hlt : k < l.length
      · obtain rfl := hl.ad (by omega)
        have c0 := hl.nn k hlt
        have c2 := hl.nz k hlt
        have hz := hl.sz _ (List.getElem_mem hlt)
        have A : Hid (l.getD k sig0 = l[k]) := getD_lt _ _ _ hlt
        unfold I64 at hz
        cases hq : nameB l[k].name
        · go_wp2_with fail
          refine (hN.out _ _ (below_draws _ _ _) (HSN.out k hlt)).mono ?_
          rintro e w' ⟨rfl, rfl⟩
          rw [hq]
          go_wp2
          go_meet
          case rel => exact ⟨⟨n, rfl⟩, by rw [allB_false hlt (by rw [sigB, A.out, hq]; rfl)], _, rfl, fun h => by rw [allB_false hlt (by rw [sigB, A.out, hq]; rfl)] at h; cases h⟩
        · by_cases hs : 2 ≤ l[k].size ∧ l[k].size ≤ 4
          case neg =>
            have HF : Hid (allB l l.length = false) := allB_false hlt (by
              have : sizeB l[k] = false := by rw [← Bool.not_eq_true]; simp only [sizeB, Bool.and_eq_true, decide_eq_true_eq]; exact hs
              rw [sigB, A.out, this]; simp)
            rcases (by omega : l[k].size < 2 ∨ (2 ≤ l[k].size ∧ 4 < l[k].size)) with hs2 | hs2
            all_goals
              clear hs
              go_wp2_with fail
              refine (hN.out _ _ (below_draws _ _ _) (HSN.out k hlt)).mono ?_
              rintro e w' ⟨rfl, rfl⟩
              rw [hq]
              go_wp2
              go_meet
              case rel => exact ⟨⟨n, rfl⟩, by rw [HF.out], _, rfl, fun h => by rw [HF.out] at h; cases h⟩
          have hsB : sizeB l[k] = true := by simp only [sizeB, Bool.and_eq_true, decide_eq_true_eq]; exact hs
          obtain ⟨⟨hp1, hp2⟩, hpw⟩ := prod_step HE.out hlt (by omega) hsB
          have HPW := Lib.hid hpw
          have HSB := Lib.hid hsB
          have HQ := Lib.hid hq
          obtain ⟨hs1, hs2⟩ := hs
          have hI : Hid (IsSigs w (.slice (some ⟨b, off, none⟩) l.length cap) l) := ⟨_, _, b, off, rfl, hl⟩
          clear hpw hsB
          generalize prodL (l.take k) = pr at *
          go_wp2_with fail
          refine (hN.out _ _ (below_draws _ _ _) (HSN.out k hlt)).mono ?_
          rintro e w' ⟨rfl, rfl⟩
          rw [hq]
          clear hq
          go_wp2
          go_loopg [3, 44] k (fun gh ok i wx => ∃ j m : Nat, gh = k - j ∧ i = .int .i64 j ∧ ok = .bool true ∧ j ≤ k ∧ Hid ((List.range j).all (fun i => !((l.getD i sig0).name.toList == (l.getD k sig0).name.toList)) = true) ∧ wx = w.drewN m)
          case atStart => exact ⟨0, n, rfl, rfl, rfl, by omega, rfl, rfl⟩
          case round =>
            obtain ⟨j, m, hgj, rfl, rfl, hj, HJ, rfl⟩ := hrel
            have HGJ := Lib.hid hgj
            clear hgj
            by_cases hltj : j < k
            · have hjl : j < l.length := by omega
              have c3 := hl.nn j hjl
              have A2 : Hid (l.getD j sig0 = l[j]) := getD_lt _ _ _ hjl
              go_wp2
              go_quiet (fail)
              go_wp2
              · have he : (l[j].name.toList == l[k].name.toList) = true := by assumption
                have HF : Hid (allB l l.length = false) := allB_false hlt (by rw [sigB, newB, range_all_false _ _ j hltj (by rw [A.out, A2.out, he]; rfl)]; simp)
                go_meet
                case rel => exact ⟨⟨_, World.drewN_drewN ..⟩, by rw [HF.out], _, rfl, fun h => by rw [HF.out] at h; cases h⟩
              · have he : (l[j].name.toList == l[k].name.toList) = false := by assumption
                go_roundg (k - (j + 1))
                case measure => have := HGJ.out; omega
                case rel => exact ⟨j + 1, _, rfl, by go_num, rfl, by omega, by show _ = _; rw [range_all_succ, HJ.out, A.out, A2.out, he]; rfl, rfl⟩
            · obtain rfl : j = k := by omega
              have hpw := HPW.out
              go_wp2
              go_roundg (l.length - (j + 1))
              case measure => have := HG.out; omega
              case rel => exact ⟨j + 1, m, rfl, by go_num, rfl, by first | rw [HPW.out] | rfl, by omega, by show _ = _; rw [allB_succ, HE.out, sigB, A.out, HQ.out, HSB.out, newB, HJ.out]; rfl, rfl⟩
      · obtain rfl : k = l.length := by omega
        go_wp2
        go_meet
        case rel => exact ⟨⟨n, rfl⟩, by rw [HE.out], _, rfl, fun _ => by rw [List.take_length]⟩
  case rest =>
    obtain ⟨⟨n, rfl⟩, rfl, p, rfl, HP⟩ := hcut
    have HV : Hid (validS l = (allB l l.length && decide (prodL l ≤ 64))) := by
      show _ = _
      rw [validS, decide_eq_true (show 1 ≤ l.length by omega), decide_eq_true (show l.length ≤ 6 by omega)]; rfl
    cases hA : allB l l.length
    · go_wp2
      (try rw [Exit.noGoto_ret])
      go_ret
      exact ⟨ret_bool (by rw [HV.out, hA]; rfl), n, rfl⟩
    · have HP2 := Lib.hid (HP.out hA)
      go_wp2
      (try rw [Exit.noGoto_ret])
      go_ret
      exact ⟨ret_bool (by rw [HV.out, hA, HP2.out]; rfl), n, rfl⟩

end Go.Proofs.YtlfackilmpnlhaaDoor
