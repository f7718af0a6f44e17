/- A region that draws its order, within a round: all its orders one by one, moves taken first. -/
import Derived.Test.YtgjpdnaeldpdeaaSgRnd
namespace Go.Proofs.Ytgjpdnaeldpdeaa
open Go

section
variable {P : Program} {ops : Array Oper} {n l₀ : Nat} {Q : Exit → Act → World → Prop}

/-- All orders that the edges allow. -/
def ordersL (md : Region.Mode) (ops : Array Oper) : Nat → Array Bool → List (List Nat)
  | 0, _ => [[]]
  | f + 1, listed => if Region.ready md ops listed = [] then [[]] else (Region.ready md ops listed).flatMap fun i => (ordersL md ops f (listed.setIfInBounds i true)).map (i :: ·)

theorem go_mem {md : Region.Mode} : ∀ (fuel t : Nat) (listed : Array Bool), Region.linearise.go md ops fuel t listed [] ∈ ordersL md ops fuel listed := by
  intro fuel
  induction fuel with
  | zero => intro t listed; simp [Region.linearise.go, ordersL]
  | succ fuel ih =>
    intro t listed
    simp only [Region.linearise.go, ordersL]
    change (match (Region.ready md ops listed)[t % (Region.ready md ops listed).length]? with
      | some i => Region.linearise.go md ops fuel (t / (Region.ready md ops listed).length) (listed.setIfInBounds i true) [i]
      | none => [].reverse) ∈ _
    by_cases hr : Region.ready md ops listed = []
    · rw [if_pos hr, hr]; simp
    · rw [if_neg hr]
      have hlt : t % (Region.ready md ops listed).length < (Region.ready md ops listed).length := Nat.mod_lt _ (List.length_pos_iff.2 hr)
      rw [List.getElem?_eq_getElem hlt]
      simp only []
      rw [linearise_go_acc, List.reverse_singleton, List.singleton_append]
      exact List.mem_flatMap.2 ⟨_, List.getElem_mem hlt, List.mem_map.2 ⟨_, ih _ _, rfl⟩⟩

/-- An operation that yields v in whatever world, in a round. -/
theorem yieldsR {i : Nat} {o : Oper} {v : Value} {a : Act} (hd : ∀ c, o.op ≠ .defer c) (hi : ops[i]? = some o) (hy : YieldsFenced P ops o v a) {K : Act → World → Prop} {w : World} :
    wpOpIn (Fence.wide.inRound l₀) n P ops Q i K a w ↔ K (a.put o.dst v) w := by
  unfold wpOpIn
  simp only [hi]
  rcases hy.1 with ⟨hw, hv⟩ | ⟨hw, rfl⟩
  · simp only [hw, if_true, Oper.wpIn, show o.semAt (Fence.wide.inRound l₀).round a.eval = execOp a.eval o from Oper.semAt_some l₀ _ _ hd, hv w, Oper.uponIn]
    exact ⟨fun h => h.2, fun h => ⟨fun _ _ => trivial, h⟩⟩
  · simp only [hw, Bool.false_eq_true, if_false]
    exact ⟨fun h => h.2, fun h => ⟨fun _ _ => trivial, h⟩⟩

theorem putR {j : Nat} {oi oj : Oper} {v : Value} (hd : ∀ c, oj.op ≠ .defer c) (hj : ops[j]? = some oj) (hap : oi.apart ops oj = true)
    (hsi : ∀ cs b, oi.op ≠ .select cs b) (hsj : ∀ cs b, oj.op ≠ .select cs b)
    (hQ : ∀ c a w, Q (.panic c) (a.put oi.dst v) w → Q (.panic c) a w) {K : Act → World → Prop} {a : Act} {w : World}
    (hy : YieldsFenced P ops oi v a) (h : wpOpIn (Fence.wide.inRound l₀) n P ops Q j K (a.put oi.dst v) w) :
    wpOpIn (Fence.wide.inRound l₀) n P ops Q j (fun a' w' => YieldsFenced P ops oi v a' ∧ K (a'.put oi.dst v) w') a w := by
  obtain ⟨h1, h2, h3⟩ := Oper.apart_spec hap
  have keep : ∀ (a : Act), YieldsFenced P ops oi v a → ∀ u, YieldsFenced P ops oi v (a.put oj.dst u) := fun a hy u =>
    hy.of_same (execOp_put oi hsi a oj.dst u h3) (wanted_put oi a oj.dst u h3) (fun w => about_put oi w a oj.dst u h3)
  have hs : ∀ a : Act, oj.semAt (Fence.wide.inRound l₀).round a.eval = execOp a.eval oj := fun a => Oper.semAt_some l₀ _ _ hd
  unfold wpOpIn at *
  simp only [hj] at *
  rw [wanted_put oj a oi.dst v h1, about_put oj w a oi.dst v h1] at h
  split
  · rename_i hw
    simp only [hw, if_true] at h
    unfold Oper.wpIn at *
    rw [hs, execOp_put oj hsj a oi.dst v h1] at h
    refine ⟨fun _ _ => trivial, ?_⟩
    replace h := h.2
    rw [hs]
    generalize (execOp a.eval oj).run P w = r at h ⊢
    cases r with
    | ok x w' =>
      cases x <;> simp only [Oper.uponIn] at h ⊢
      case value u => exact ⟨keep a hy u, by rw [← Act.put_comm a v u h2]; exact h⟩
      case skip => exact ⟨keep a hy _, by rw [← Act.put_comm a v undef h2]; exact h⟩
      case defer d =>
        refine ⟨keep { a with defers := d :: a.defers } (hy.of_same rfl rfl (fun _ => rfl)) _, ?_⟩
        rw [← Act.put_comm _ v undef h2, ← Act.put_defers]
        exact h
      case enter f args =>
        refine ⟨h.1, CallsIn.mono h.2 fun e w'' he => ?_⟩
        cases e with
        | returned u => exact ⟨keep a hy u, by rw [← Act.put_comm a v u h2]; exact he⟩
        | panicked c => exact hQ _ _ _ he
        | outgrown => exact he
      case row row args => exact ⟨h.1, RowsIn.mono h.2 fun u w'' he => ⟨keep a hy u, by rw [← Act.put_comm a v u h2]; exact he⟩⟩
      case round l f tmps assign body =>
        refine ⟨h.1, RoundIn.mono h.2 fun e w'' he => ?_⟩
        cases e with
        | returned u => exact ⟨keep a hy u, by rw [← Act.put_comm a v u h2]; exact he⟩
        | panicked c => exact hQ _ _ _ he
        | outgrown => exact he
    | halt x w' =>
      cases x <;> simp only [Oper.uponIn] at h ⊢
      case panic u => exact hQ _ _ _ h
  · rename_i hw
    simp only [hw] at h
    exact ⟨h.1, keep a hy _, by rw [← Act.put_comm a v undef h2]; exact h.2⟩

/-- No operation is a defer or a select. -/
def plainOps (ops : Array Oper) : Bool := ops.toList.all fun o => match o.op with | .defer _ => false | .select _ _ => false | _ => true
theorem plainOps_spec (h : plainOps ops = true) {i : Nat} {o : Oper} (hi : ops[i]? = some o) : (∀ c, o.op ≠ .defer c) ∧ ∀ cs b, o.op ≠ .select cs b := by
  have hm : o ∈ ops.toList := by
    obtain ⟨hlt, e⟩ := Array.getElem?_eq_some_iff.1 hi
    rw [← e]; simp
  have := List.all_eq_true.1 h o hm
  constructor
  · intro c hc; rw [hc] at this; cases this
  · intro c b hc; rw [hc] at this; cases this

/-- The operations ahead of i may come behind it. -/
def aheadB (ops : Array Oper) (oi : Oper) (pre : List Nat) : Bool := pre.all fun j => match ops[j]? with | some oj => oi.apart ops oj | none => true

theorem opsR_front {i : Nat} {oi : Oper} {v : Value} (hp : plainOps ops = true) (hi : ops[i]? = some oi) (hQ : ∀ c a w, Q (.panic c) (a.put oi.dst v) w → Q (.panic c) a w) (post : List Nat) :
    ∀ (pre : List Nat) (a : Act) (w : World), aheadB ops oi pre = true → YieldsFenced P ops oi v a →
      wpOpsIn (Fence.wide.inRound l₀) n P ops Q (pre ++ post) (a.put oi.dst v) w → wpOpsIn (Fence.wide.inRound l₀) n P ops Q (pre ++ i :: post) a w
  | [], a, w, _, hy, h => by
    rw [List.nil_append, wpOpsIn_cons]
    exact (yieldsR (plainOps_spec hp hi).1 hi hy).2 h
  | j :: pre, a, w, hb, hy, h => by
    simp only [aheadB, List.all_cons, Bool.and_eq_true] at hb
    rw [List.cons_append, wpOpsIn_cons] at h ⊢
    cases hj : ops[j]? with
    | none =>
      unfold wpOpIn at h ⊢
      simp only [hj] at h ⊢
      exact opsR_front hp hi hQ post pre a w hb.2 hy h
    | some oj =>
      rw [hj] at hb
      refine wpOpIn_mono (fun a' w' h3 => opsR_front hp hi hQ post pre a' w' hb.2 h3.1 h3.2) (putR (plainOps_spec hp hj).1 hj hb.1 (plainOps_spec hp hi).2 (plainOps_spec hp hj).2 hQ hy h)

/-- The order without i, where i may come first. -/
def canB (ops : Array Oper) (oi : Oper) (i : Nat) (is : List Nat) : Bool := is.contains i && aheadB ops oi (is.takeWhile (· != i))
theorem opsR_first {i : Nat} {oi : Oper} {v : Value} (hp : plainOps ops = true) (hi : ops[i]? = some oi) (hQ : ∀ c a w, Q (.panic c) (a.put oi.dst v) w → Q (.panic c) a w) {is : List Nat} {a : Act} {w : World} (hc : canB ops oi i is = true) (hy : YieldsFenced P ops oi v a)
    (h : wpOpsIn (Fence.wide.inRound l₀) n P ops Q (is.erase i) (a.put oi.dst v) w) : wpOpsIn (Fence.wide.inRound l₀) n P ops Q is a w := by
  simp only [canB, Bool.and_eq_true] at hc
  obtain ⟨hm, hb⟩ := hc
  have e : ∀ l : List Nat, l.contains i = true → ∃ post, l = l.takeWhile (· != i) ++ i :: post ∧ l.erase i = l.takeWhile (· != i) ++ post := by
    intro l
    induction l with
    | nil => intro h; cases h
    | cons x l ih =>
      intro h
      by_cases hx : x = i
      · subst hx; exact ⟨l, by simp⟩
      · obtain ⟨post, h1, h2⟩ := ih (by simpa [List.contains_cons, Ne.symm hx] using h)
        refine ⟨post, ?_, ?_⟩
        · rw [List.takeWhile_cons_of_pos (by simpa using hx), List.cons_append, ← h1]
        · rw [List.erase_cons_tail (by simpa using hx), List.takeWhile_cons_of_pos (by simpa using hx), List.cons_append, ← h2]
  obtain ⟨post, h1, h2⟩ := e is hm
  rw [h2] at h
  rw [h1]
  exact opsR_front hp hi hQ post _ a w hb hy h

/-- The operations of an order. -/
def opsOf (ops : Array Oper) (is : List Nat) : List Oper := is.filterMap fun i => ops[i]?
theorem opsIn_list {F : Fence} : ∀ (is : List Nat), wpOpsIn F n P ops Q is = wpListIn F n P ops Q (opsOf ops is)
  | [] => rfl
  | i :: is => by
    funext a w
    cases h : ops[i]? with
    | none => simp only [wpOpsIn, h, opsOf, List.filterMap_cons]; exact congrFun (congrFun (opsIn_list is) a) w
    | some o => simp only [wpOpsIn, h, opsOf, List.filterMap_cons, wpListIn]; rw [opsIn_list is]; rfl

/-- Two operations may come first in each order: then os are the orders of the others. -/
def twoB (ops : Array Oper) (oi oj : Oper) (i j : Nat) (os : List (List Nat)) : Bool :=
  plainOps ops && (ordersL .any ops ops.size (Array.replicate ops.size false)).all fun is => canB ops oi i is && canB ops oj j (is.erase i) && os.contains ((is.erase i).erase j)

theorem region_two {id : Nat} {a : Act} {w : World} (hm : P.follows .mixedOrders = true) (i j : Nat) {oi oj : Oper} {vi vj : Value} (hi : ops[i]? = some oi) (hj : ops[j]? = some oj) (os : List (List Nat)) (hB : twoB ops oi oj i j os = true)
    (hQi : ∀ c a w, Q (.panic c) (a.put oi.dst vi) w → Q (.panic c) a w) (hQj : ∀ c a w, Q (.panic c) (a.put oj.dst vj) w → Q (.panic c) a w)
    (hyi : YieldsFenced P ops oi vi a) (hyj : YieldsFenced P ops oj vj (a.put oi.dst vi))
    (h : ∀ is ∈ os, wpListIn (Fence.wide.inRound l₀) n P ops Q (opsOf ops is) ((a.put oi.dst vi).put oj.dst vj) w.drew) : (Code.region id ops true).wpIn (Fence.wide.inRound l₀) n P Q a w := by
  simp only [twoB, Bool.and_eq_true] at hB
  obtain ⟨hp, hall⟩ := hB
  refine wpIn_region_draw fun t => ?_
  simp only [Region.schedule, hm, Bool.true_or, if_true]
  have hmem := go_mem (ops := ops) (md := .any) ops.size t (Array.replicate ops.size false)
  change wpOpsIn _ _ _ _ _ (Region.linearise.go .any ops ops.size t (Array.replicate ops.size false) []) a w.drew
  generalize Region.linearise.go .any ops ops.size t (Array.replicate ops.size false) [] = is at *
  have hc := List.all_eq_true.1 hall is hmem
  simp only [Bool.and_eq_true] at hc
  obtain ⟨⟨c1, c2⟩, c3⟩ := hc
  refine opsR_first hp hi hQi c1 hyi (opsR_first hp hj hQj c2 hyj ?_)
  rw [opsIn_list]
  exact h _ (by simpa using c3)

end
end Go.Proofs.Ytgjpdnaeldpdeaa
