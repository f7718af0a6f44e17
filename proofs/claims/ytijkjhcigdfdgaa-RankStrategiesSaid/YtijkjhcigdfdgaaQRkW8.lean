/- Which measure comes before which. The first position with the least measure. -/
import Derived.Test.YtijkjhcigdfdgaaQRkP5
namespace Go.Proofs.Ytijkjhcigdfdgaa
open Go.RowKit

def befB (a b : List Int) : Bool := if a = [] ∨ b = [] then decide (a ≠ []) else decide (cmpL a b < 0)
theorem bef_iff {mo : List Nat} {a b : List Int} (ha : meB mo a = true) (hb : meB mo b = true) : befB a b = decide (cdN mo a < cdN mo b) := by
  unfold befB
  have h1 := cd_le ha
  have h2 := cd_le hb
  by_cases na : a = []
  · rw [if_pos (.inl na)]
    have := (cd_top ha).2 na
    rw [decide_eq_false (by simp [na]), decide_eq_false (by omega)]
  · have t1 : cdN mo a ≠ topN mo := fun e => na ((cd_top ha).1 e)
    by_cases nb : b = []
    · rw [if_pos (.inr nb)]
      have := (cd_top hb).2 nb
      rw [decide_eq_true na, decide_eq_true (by omega)]
    · rw [if_neg (by simp [na, nb])]
      have la : ∀ {l : List Int}, meB mo l = true → l ≠ [] → (∀ i, i < mo.length → 0 ≤ l.getD i 0 ∧ (l.getD i 0).toNat ≤ mo.getD i 0) ∧ ((mo = [] ∧ l = [0]) ∨ l.length = mo.length) := by
        intro l h hn
        rcases meB_iff.1 h with h | ⟨h, h'⟩ | ⟨-, h, h'⟩
        · exact absurd h hn
        · subst h; exact ⟨fun i hi => by simp at hi, .inl ⟨rfl, h'⟩⟩
        · exact ⟨fun i hi => by have := h' i hi; omega, .inr h⟩
      obtain ⟨a1, a2⟩ := la ha na
      obtain ⟨b1, b2⟩ := la hb nb
      unfold cdN
      rw [if_neg na, if_neg nb]
      by_cases hmo : mo = []
      · subst hmo
        have ea : a = [0] := by
          rcases a2 with h | h
          · exact h.2
          · exact absurd (List.length_eq_zero_iff.1 h) na
        have eb : b = [0] := by
          rcases b2 with h | h
          · exact h.2
          · exact absurd (List.length_eq_zero_iff.1 h) nb
        subst ea eb
        rfl
      · have ea : a.length = mo.length := a2.resolve_left fun h => hmo h.1
        have eb : b.length = mo.length := b2.resolve_left fun h => hmo h.1
        have := cmp_take a1 b1 mo.length (Nat.le_refl _) (by omega) (by omega)
        rw [List.take_of_length_le (by omega), List.take_of_length_le (by omega)] at this
        rw [this]
        by_cases h : preN mo (fun i => (a.getD i 0).toNat) mo.length < preN mo (fun i => (b.getD i 0).toNat) mo.length
        · rw [if_pos h, decide_eq_true h]; rfl
        · rw [if_neg h, decide_eq_false h]
          split <;> rfl

theorem befC_c (w : World) (x y : Int) : Calls Try.prog 52 #[.int .i64 x, .int .i64 y] w (Quiet (.bool (decide (x < y))) w) := by
  go_enter Try.func52, Try.ntmps52
  go_wp2
  go_ret
  exact ⟨rfl, 0, rfl⟩

set_option maxRecDepth 100000 in
theorem befD_c (w : World) (va vb : Value) (a b : List Int) (ha : IsInts w va a) (hb : IsInts w vb b) :
    Calls Try.prog 94 #[va, vb] w (Quiet (.bool (befB a b)) w) := by
  have HC : Hid (∀ n, Calls Try.prog 75 #[va, vb] (w.drewN n) (Quiet (.int .i64 (cmpL a b)) (w.drewN n))) := fun n => compare_c _ _ _ _ _ (ha.below (below_draws _ _ _)) (hb.below (below_draws _ _ _))
  obtain ⟨aa, ca, rfl⟩ := ha.shape
  obtain ⟨ab, cb, rfl⟩ := hb.shape
  clear ha hb
  by_cases h1 : a.length = 0
  · have t1 : ((a.length : Int) == 0) = true := by rw [beq_iff_eq]; omega
    have t2 : decide ((0 : Int) < (a.length : Int)) = false := decide_eq_false (by omega)
    have t3 : decide (0 < a.length) = false := decide_eq_false (by omega)
    have HE : Hid (befB a b = false) := by
      show _ = _
      unfold befB; rw [List.length_eq_zero_iff.1 h1, if_pos (.inl rfl)]; rfl
    clear h1
    go_enter Try.func94, Try.ntmps94
    go_wp2
    go_ret
    exact ⟨ret_bool HE.out.symm, 0, rfl⟩
  have t1 : ((a.length : Int) == 0) = false := by rw [beq_eq_false_iff_ne]; omega
  have na : a ≠ [] := fun e => h1 (by rw [e]; rfl)
  by_cases h2 : b.length = 0
  · have t4 : ((b.length : Int) == 0) = true := by rw [beq_iff_eq]; omega
    have t2 : decide ((0 : Int) < (a.length : Int)) = true := decide_eq_true (by omega)
    have t3 : decide (0 < a.length) = true := decide_eq_true (by omega)
    have HE : Hid (befB a b = true) := by
      show _ = _
      unfold befB; rw [List.length_eq_zero_iff.1 h2, if_pos (.inr rfl)]; exact decide_eq_true na
    clear h1 h2 na
    go_enter Try.func94, Try.ntmps94
    go_wp2
    go_ret
    exact ⟨ret_bool HE.out.symm, 0, rfl⟩
  have t4 : ((b.length : Int) == 0) = false := by rw [beq_eq_false_iff_ne]; omega
  have HE : Hid (befB a b = decide (cmpL a b < 0)) := by
    show _ = _
    unfold befB; rw [if_neg]
    rintro (h | h)
    · exact na h
    · rw [h] at h2; exact h2 rfl
  clear h1 h2 na
  generalize cmpL a b = c at *
  go_enter Try.func94, Try.ntmps94
  go_wp2_with fail
  refine (HC.out 0).mono ?_
  rintro e w1 ⟨rfl, n1, rfl⟩
  go_wp2
  go_ret
  exact ⟨ret_bool HE.out.symm, _, rfl⟩

end Go.Proofs.Ytijkjhcigdfdgaa

namespace Go.Proofs.Ytijkjhcigdfdgaa
open Go.RowKit

theorem best_take (f : Nat → Nat) (l : List Int) {k : Nat} (hk : k + 1 < l.length) : bestI f (l.take (k + 2)) = if f (l.getD (k + 1) 0).toNat < f (bestI f (l.take (k + 1))).toNat then l.getD (k + 1) 0 else bestI f (l.take (k + 1)) := by
  have e : l.take (k + 2) = l.take (k + 1) ++ [l.getD (k + 1) 0] := by rw [getD_lt _ _ _ hk, List.take_succ_eq_append_getElem hk]
  have e1 : (l.take (k + 1)).getD 0 0 = l.getD 0 0 := by simp [List.getD]
  have e2 : (l.take (k + 2)).getD 0 0 = l.getD 0 0 := by simp [List.getD]
  unfold bestI
  rw [e2, e1, e, List.foldl_append]
  rfl
theorem best_one (f : Nat → Nat) {l : List Int} (h : 0 < l.length) : bestI f (l.take 1) = l.getD 0 0 := by
  cases l with
  | nil => simp at h
  | cons x l => simp [bestI]
theorem best_mem (f : Nat → Nat) {l : List Int} (h : l ≠ []) : bestI f l ∈ l := by
  have key : ∀ (t : List Int) (b : Int), t.foldl (fun b x => if f x.toNat < f b.toNat then x else b) b = b ∨ t.foldl (fun b x => if f x.toNat < f b.toNat then x else b) b ∈ t := by
    intro t
    induction t with
    | nil => intro b; exact .inl rfl
    | cons x t ih =>
      intro b
      show (t.foldl _ (if f x.toNat < f b.toNat then x else b)) = b ∨ _
      rcases ih (if f x.toNat < f b.toNat then x else b) with e | e
      · by_cases hc : f x.toNat < f b.toNat
        · rw [if_pos hc] at e
          exact .inr (by show (t.foldl _ (if f x.toNat < f b.toNat then x else b)) ∈ _; rw [if_pos hc, e]; exact List.mem_cons_self)
        · rw [if_neg hc] at e
          exact .inl (by rw [if_neg hc, e])
      · exact .inr (List.mem_cons_of_mem _ e)
  cases l with
  | nil => exact absurd rfl h
  | cons x l =>
    rcases key (x :: l) ((x :: l).getD 0 0) with e | e
    · unfold bestI; rw [e]; exact List.mem_cons_self
    · exact e

set_option maxRecDepth 100000 in
theorem leastD_c (w : World) (vl vm : Value) (l : List Int) (m : List (List Int)) (n : Nat) (f : Nat → Nat) (hl : IsInts w vl l) (hm : IsRows w vm m) (hn : m.length = n) (hne : l ≠ []) (hx : ∀ x ∈ l, ∃ j : Nat, x = (j : Int) ∧ j < n) (hf : ∀ i j, i < n → j < n → befB (m.getD i []) (m.getD j []) = decide (f i < f j)) :
    Calls Try.prog 44 #[vl, vm] w (Quiet (.int .i64 (bestI f l)) w) := by
  obtain ⟨⟨al, cl, bl, ol, rfl, A⟩, -⟩ := hl
  obtain ⟨M, ⟨a3, c3, b3, o3, rfl, A3⟩, R3⟩ := hm
  have hpos : 0 < l.length := List.length_pos_iff.2 hne
  obtain rfl := A.ad hpos
  have nb := A.nb
  have nn3 := A3.nb
  have hc := A.lc
  have c0 := A.el 0 hpos
  unfold ivF at c0
  rw [Nat.add_zero] at c0
  have t0 : (0 : Int) < (l.length : Int) := by omega
  have t1 : (1 : Int) ≤ (l.length : Int) := by omega
  have t2 : 1 ≤ l.length := hpos
  have HL : Hid (∀ j, j < l.length → w.cell? ⟨bl, ol + j, none⟩ = some (.int .i64 (l.getD j 0))) := fun j hj => A.el j hj
  have HM : Hid (∀ j, j < n → w.cell? ⟨b3, o3 + j, none⟩ = some (M j)) := fun j hj => A3.el j (by rw [hn]; exact hj)
  have HB : Hid (∀ W i j, Below w.heap.size w W → i < n → j < n → Calls Try.prog 94 #[M i, M j] W (Quiet (.bool (decide (f i < f j))) W)) := fun W i j hW hi hj => by
    rw [← hf i j hi hj]
    exact befD_c W _ _ _ _ ((R3 i (by rw [hn]; exact hi)).below hW) ((R3 j (by rw [hn]; exact hj)).below hW)
  have HX : Hid (∀ x ∈ l, ∃ j : Nat, x = (j : Int) ∧ j < n) := hx
  have HNE := Lib.hid hne
  have hn0 : 0 < n := by obtain ⟨x, hx'⟩ := List.exists_mem_of_ne_nil _ hne; obtain ⟨j, -, hj⟩ := hx x hx'; omega
  obtain rfl := A3.ad (by omega)
  rw [hn] at nn3 ⊢
  have H0 : Hid (l.getD 0 0 = bestI f (l.take 1)) := (best_one f hpos).symm
  clear hx hf R3 A A3 hne hn
  generalize l.getD 0 0 = x0 at *
  have hm : ∀ (v : Value) (w : World), (method 216 66 v "foresight/rank.before").run Try.prog w = .ok (94, v) w := fun _ _ => by kernel_rfl
  by_cases h1 : l.length = 1
  · have HE : Hid (bestI f l = x0) := by show _ = _; rw [H0.out, List.take_of_length_le (by omega)]
    generalize l.length = ln at *
    subst h1
    by_cases hcl : cl = 1
    · go_enter Try.func44, Try.ntmps44
      go_upto_region 3 with (fail)
      go_loopg [5, 7, 14] 1 (fun gh b _ i wr => gh = 1 ∧ b = .int .i64 x0 ∧ i = .int .i64 0 ∧ wr = w)
      case atStart => exact ⟨rfl, rfl, rfl, rfl⟩
      case round =>
        obtain ⟨rfl, rfl, rfl, rfl⟩ := hrel
        go_wp2
        go_ret
        exact ⟨by rw [HE.out]; rfl, 0, rfl⟩
    · go_enter Try.func44, Try.ntmps44
      go_upto_region 3 with (fail)
      go_loopg [5, 7, 14] 1 (fun gh b _ i wr => gh = 1 ∧ b = .int .i64 x0 ∧ i = .int .i64 0 ∧ wr = w)
      case atStart => exact ⟨rfl, rfl, rfl, rfl⟩
      case round =>
        obtain ⟨rfl, rfl, rfl, rfl⟩ := hrel
        go_wp2
        go_ret
        exact ⟨by rw [HE.out]; rfl, 0, rfl⟩
  · have hcl : ¬ cl = 1 := by omega
    go_enter Try.func44, Try.ntmps44
    go_upto_region 3 with (fail)
    go_loopg [5, 7, 14] l.length (fun gh b _ i wr => ∃ k nd : Nat, gh = l.length - k ∧ b = .int .i64 (bestI f (l.take (k + 1))) ∧ i = .int .i64 (k : Int) ∧ k + 1 ≤ l.length ∧ Hid (wr = w.drewN nd))
    case atStart => exact ⟨0, 0, rfl, by rw [H0.out], rfl, by omega, rfl⟩
    case round =>
      obtain ⟨k, nd, hgk, rfl, rfl, hk, HW⟩ := hrel
      have HGK := Lib.hid hgk
      clear hgk
      have HBW : Hid (Below w.heap.size w wr) := by show Below _ _ _; rw [HW.out]; exact below_draws _ _ _
      by_cases hlt : k + 1 < l.length
      · have hk1 : (k : Int) < (l.length : Int) - 1 := by omega
        have hmem : l.getD (k + 1) 0 ∈ l := by rw [getD_lt _ _ _ hlt]; exact List.getElem_mem hlt
        obtain ⟨u, hu, hun⟩ := HX.out (l.getD (k + 1) 0) hmem
        obtain ⟨q, hq, hqn⟩ := HX.out (bestI f (l.take (k + 1))) (List.mem_of_mem_take (best_mem f (fun e => by have := congrArg List.length e; rw [List.length_take] at this; simp at this; have := HNE.out; simp_all)))
        have r1 : wr.cell? ⟨bl, ol + 1 + k, none⟩ = some (.int .i64 (u : Int)) := by
          have := cellB HBW.out (HL.out (k + 1) hlt)
          rwa [show ol + (k + 1) = ol + 1 + k by omega, hu] at this
        have r2 := cellB HBW.out (HM.out u hun)
        have r3 := cellB HBW.out (HM.out q hqn)
        have HT : Hid (bestI f (l.take (k + 2)) = if f u < f q then (u : Int) else (q : Int)) := by
          show _ = _
          rw [best_take f l hlt, hu, hq]; simp
        have HC : Hid (∀ W, Below w.heap.size w W → Calls Try.prog 94 #[M u, M q] W (Quiet (.bool (decide (f u < f q))) W)) := fun W h => HB.out W u q h hun hqn
        rw [hq]
        have u1 : (u : Int) < (n : Int) := by omega
        have u2 : (q : Int) < (n : Int) := by omega
        clear hu hq hmem
        generalize M u = Mu at *
        generalize M q = Mq at *
        go_upto_region 5 with (fail)
        go_quiet ((go_at_call 94; refine (HC.out _ (by repeat (first | exact HBW.out | refine belD ?_ _))).mono ?_; rintro e w' ⟨rfl, n', rfl⟩; exact ⟨rfl, _, by rw [World.drewN_drewN]⟩))
        by_cases hc : f u < f q
        · have t5 : decide (f u < f q) = true := decide_eq_true hc
          have HT2 : Hid (bestI f (l.take (k + 2)) = (u : Int)) := by show _ = _; rw [HT.out, if_pos hc]
          go_wp2
          go_roundg (l.length - (k + 1))
          case measure => have := HGK.out; omega
          case rel => exact ⟨k + 1, _, rfl, by rw [HT2.out], by go_num, hlt, by show _ = _; rw [HW.out, World.drewN_drewN]⟩
        · have t5 : decide (f u < f q) = false := decide_eq_false hc
          have HT2 : Hid (bestI f (l.take (k + 2)) = (q : Int)) := by show _ = _; rw [HT.out, if_neg hc]
          go_wp2
          go_roundg (l.length - (k + 1))
          case measure => have := HGK.out; omega
          case rel => exact ⟨k + 1, _, rfl, by rw [HT2.out], by go_num, hlt, by show _ = _; rw [HW.out, World.drewN_drewN]⟩
      · have hd : ¬ (k : Int) < (l.length : Int) - 1 := by omega
        have HE : Hid (bestI f (l.take (k + 1)) = bestI f l) := by show _ = _; rw [List.take_of_length_le (by omega)]
        go_wp2
        go_ret
        exact ⟨by rw [HE.out]; rfl, _, HW.out⟩

end Go.Proofs.Ytijkjhcigdfdgaa
