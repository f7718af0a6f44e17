/- Components: the parts in plain terms; a list of matrices in memory. -/
import Derived.Test.YtdkpdpcecjcmcaaQRd30
import Derived.Test.YtdkpdpcecjcmcaaQRdX
namespace Go.Proofs.Ytdkpdpcecjcmcaa
open Go.RowKit

def conW (W : Nat → Nat → Bool) (i j : Nat) : Bool := W i j && W j i
def cmpW (a : Au) (S W : Nat → Nat → Bool) (i j x : Nat) : Bool := conW W i j && (S j x && (W i (nxI a j x) && W (nxI a j x) i))
def doneW (W : Nat → Nat → Bool) (rs : List Nat) (j : Nat) : Bool := rs.any fun r => conW W r j
/-- One node out of each part among the first i. -/
structure RepW (n : Nat) (W : Nat → Nat → Bool) (rs : List Nat) (i : Nat) : Prop where
  lt : ∀ r ∈ rs, r < n ∧ W r r = true
  cov : ∀ j, j < i → W j j = true → doneW W rs j = true
  dis : rs.Pairwise fun r r' => conW W r r' = false
  sz : rs.length ≤ i
section
variable {n i : Nat} {W : Nat → Nat → Bool} {rs : List Nat}
theorem RepW.nil (n : Nat) (W : Nat → Nat → Bool) : RepW n W [] 0 := ⟨by simp, fun j h => by omega, .nil, Nat.le_refl _⟩
theorem RepW.skip (h : RepW n W rs i) (hs : W i i = true → doneW W rs i = true) : RepW n W rs (i + 1) :=
  ⟨h.lt, fun j hj hw => by
    by_cases e : j = i
    · subst e; exact hs hw
    · exact h.cov j (by omega) hw, h.dis, by have := h.sz; omega⟩
theorem doneW_snoc (W : Nat → Nat → Bool) (rs : List Nat) (i j : Nat) : doneW W (rs ++ [i]) j = (doneW W rs j || conW W i j) := by unfold doneW; rw [List.any_append]; simp
theorem RepW.add (h : RepW n W rs i) (hi : i < n) (hw : W i i = true) (hd : doneW W rs i = false) : RepW n W (rs ++ [i]) (i + 1) := by
  refine ⟨fun r hr => ?_, fun j hj hj2 => ?_, ?_, by have := h.sz; simp; omega⟩
  · rcases List.mem_append.1 hr with hr | hr
    · exact h.lt r hr
    · rw [List.mem_singleton.1 hr]; exact ⟨hi, hw⟩
  · rw [doneW_snoc]
    by_cases e : j = i
    · subst e; simp [conW, hw]
    · rw [h.cov j (by omega) hj2]; rfl
  · rw [List.pairwise_append]
    refine ⟨h.dis, by simp, fun r hr r' hr' => ?_⟩
    rw [List.mem_singleton.1 hr']
    unfold doneW at hd
    rw [List.any_eq_false] at hd
    simpa using hd r hr
end
/-- Up to (j, x). -/
def parM (F : Nat → Nat → Bool) (j x : Nat) (a c : Nat) : Bool := if a < j ∨ (a = j ∧ c < x) then F a c else false
section
variable {F : Nat → Nat → Bool} {j x : Nat}
theorem parM_put (F : Nat → Nat → Bool) (j x a c : Nat) : upM (parM F j x) j x (F j x) a c = parM F j (x + 1) a c := by
  rw [upM_at]
  unfold parM
  by_cases h : a = j ∧ c = x
  · obtain ⟨rfl, rfl⟩ := h
    rw [if_pos ⟨rfl, rfl⟩, if_pos (.inr ⟨rfl, by omega⟩)]
  · rw [if_neg h]
    by_cases h2 : a < j ∨ (a = j ∧ c < x)
    · rw [if_pos h2, if_pos (by omega)]
    · rw [if_neg h2, if_neg (by omega)]
theorem parM_row (k : Nat) (a c : Nat) (hc : c < k) : parM F j k a c = parM F (j + 1) 0 a c := by
  unfold parM
  by_cases h2 : a < j ∨ (a = j ∧ c < k)
  · rw [if_pos h2, if_pos (by omega)]
  · rw [if_neg h2, if_neg (by omega)]
theorem parM_skip (hF : ∀ c, F j c = false) (a c : Nat) : parM F j 0 a c = parM F (j + 1) 0 a c := by
  unfold parM
  by_cases h : a = j
  · subst h; rw [if_neg (by omega), if_pos (by omega), hF]
  · by_cases h2 : a < j ∨ (a = j ∧ c < 0)
    · rw [if_pos h2, if_pos (by omega)]
    · rw [if_neg h2, if_neg (by omega)]
theorem parM_zero (a c : Nat) : noM a c = parM F 0 0 a c := by unfold parM noM; rw [if_neg (by omega)]
theorem parM_all (n : Nat) (a c : Nat) (ha : a < n) : parM F n 0 a c = F a c := by unfold parM; rw [if_pos (.inl ha)]
end
def dnP (W : Nat → Nat → Bool) (rs : List Nat) (i j c : Nat) : Bool := doneW W rs c || (decide (c < j) && conW W i c)
section
variable {W : Nat → Nat → Bool} {rs : List Nat} {i j : Nat}
theorem dnP_zero (n : Nat) : mrow n (doneW W rs) = mrow n (dnP W rs i 0) := List.map_congr_left fun c _ => by simp [dnP]
theorem dnP_all (n : Nat) : mrow n (dnP W rs i n) = mrow n (doneW W (rs ++ [i])) := List.map_congr_left fun c hc => by have := List.mem_range.1 hc; rw [doneW_snoc]; simp [dnP, this]
theorem dnP_skip (n : Nat) (h : conW W i j = false) : mrow n (dnP W rs i j) = mrow n (dnP W rs i (j + 1)) := List.map_congr_left fun c _ => by
  unfold dnP
  by_cases e : c = j
  · subst e; simp [h]
  · have : (c < j) = (c < j + 1) := propext ⟨fun _ => by omega, fun _ => by omega⟩
    simp only [this]
theorem dnP_set (n : Nat) (h : conW W i j = true) : (mrow n (dnP W rs i j)).set j true = mrow n (dnP W rs i (j + 1)) := by
  apply List.ext_getElem (by simp [mrow])
  intro c h1 h2
  rw [List.getElem_set]
  have e1 : ∀ f : Nat → Bool, ∀ (h : c < (mrow n f).length), (mrow n f)[c] = f c := fun f h => by simp [mrow]
  by_cases e : j = c
  · subst e; rw [if_pos rfl, e1]; simp [dnP, h]
  · rw [if_neg e, e1, e1]
    have : (c < j) = (c < j + 1) := propext ⟨fun _ => by omega, fun _ => by omega⟩
    simp only [dnP, this]
end

theorem info_movesN : (Try.prog.info? 53).map (fun i => (i.zero, i.size, i.bytes)) = some (some (.slice none 0 0), 1, 24) := by kernel_rfl
/-- A list of matrices. -/
structure ML (w : World) (B : Nat) (vo : Value) (outs : List Value) (n k : Nat) (Ms : List (Nat → Nat → Bool)) : Prop where
  o : w.ownsRow B 53 1 vo Ms.length outs
  ln : outs.length = Ms.length
  e : ∀ j, j < Ms.length → ∃ vals, MW w B (outs.getD j undef) vals n k (Ms.getD j noM) ∧ ∀ q, vo.ownBlock = some q → ¬ hotM (outs.getD j undef) vals n q
section
variable {w w' : World} {B B' C n k : Nat} {vo v' y : Value} {outs vals : List Value} {Ms : List (Nat → Nat → Bool)} {M : Nat → Nat → Bool}
theorem ML.nil {n k : Nat} (h : w.ownsRow B 53 1 vo 0 []) : ML w B vo [] n k [] := ⟨h, rfl, fun j h => absurd h (Nat.not_lt_zero _)⟩
theorem ML.only {S : Nat → Prop} (h : ML w B vo outs n k Ms) (ho : Only S w w') (hS : ∀ q, B ≤ q → q < w.heap.size → ¬ S q) : ML w' B vo outs n k Ms := by
  refine ⟨ownsRow_only h.o ho fun q e => ?_, h.ln, fun j hj => ?_⟩
  · have := World.ownsRow.lt h.o q e; exact hS q this.1 this.2
  · obtain ⟨vals, h1, h2⟩ := h.e j hj
    exact ⟨vals, h1.only ho fun q e k => by have := h1.lt q k; exact hS q this.1 this.2 e, h2⟩
theorem ML.below (h : ML w B vo outs n k Ms) (hb : Below w.heap.size w w') : ML w' B vo outs n k Ms := h.only (S := fun _ => False) (Only.of_below hb) fun _ _ _ => id
theorem ML.base (h : ML w B vo outs n k Ms) (hb : B' ≤ B) : ML w B' vo outs n k Ms := by
  refine ⟨⟨h.o.1, ?_⟩, h.ln, fun j hj => ?_⟩
  · rcases h.o.2 with h0 | ⟨g, cap, cur, hv, hg, r⟩
    · exact .inl h0
    · exact .inr ⟨g, cap, cur, hv, Nat.le_trans hb hg, r⟩
  · obtain ⟨vals, h1, h2⟩ := h.e j hj
    exact ⟨vals, h1.base hb, h2⟩
theorem ML.slice (h : ML w B vo outs n k Ms) : ∃ a c, vo = .slice a Ms.length c := ownsRow_slice h.o
theorem ML.add (h : ML w B vo outs n k Ms) (ho : w'.ownsRow B 53 1 v' (Ms.length + 1) (outs ++ [y])) (hg : w.grownBy w' vo.ownBlock) (hm : Moved w vo v') (hy : MW w C y vals n k M) (hC : B ≤ C) (hlt : ∀ q, vo.ownBlock = some q → q < C) : ML w' B v' (outs ++ [y]) n k (Ms ++ [M]) := by
  have hl := h.ln
  have hG := Only.of_grown hg
  have hcut : ∀ q, vo.ownBlock = some q → ¬ hotM y vals n q := fun q e k => by have h1 := hlt q e; have h2 := (hy.lt q k).1; omega
  refine ⟨by rw [List.length_append]; exact ho, by simp [hl], fun j hj => ?_⟩
  rw [List.length_append, List.length_singleton] at hj
  by_cases e : j = Ms.length
  · subst e
    have e2 : (outs ++ [y]).getD Ms.length undef = y := by rw [← hl]; simp [List.getD]
    have e3 : (Ms ++ [M]).getD Ms.length noM = M := by simp [List.getD]
    rw [e2, e3]
    refine ⟨vals, (hy.base hC).only hG fun q e k => hcut q e k, fun q e k => ?_⟩
    rcases hm q e with h1 | h1
    · exact hcut q h1 k
    · have := (hy.lt q k).2; omega
  · have hj2 : j < Ms.length := by omega
    have e2 : (outs ++ [y]).getD j undef = outs.getD j undef := by simp [List.getD, List.getElem?_append_left (show j < outs.length by omega)]
    have e3 : (Ms ++ [M]).getD j noM = Ms.getD j noM := by simp [List.getD, List.getElem?_append_left hj2]
    rw [e2, e3]
    obtain ⟨vs, h1, h2⟩ := h.e j hj2
    refine ⟨vs, h1.only hG fun q e k => h2 q e k, fun q e k => ?_⟩
    rcases hm q e with h3 | h3
    · exact h2 q h3 k
    · have := (h1.lt q k).2; omega
end
/-- 'append' of a matrix. -/
theorem app_moves {ops : Array Oper} {rest : List Oper} {o : Oper} {a : Act} {Q : Exit → Act → World → Prop} {w : World} (hgd : o.guard = none) (s x : Operand) (u : Value)
    (ho : o.op = .call { callee := .builtin .append, args := #[s, x], argTypes := #[76, 76] })
    (base : Nat) (v : Value) (n : Nat) (l : List Value) (hown : w.ownsRow base 53 1 v n l) (hs : a.eval s = v) (m : Nat) (hm : m = w.heap.size) (hx : a.eval x = .slice (some ⟨m, 0, none⟩) 1 1) (hu : u.oneCell' = true)
    (hn : n < 5864062014000) (hbase : base ≤ w.heap.size)
    (h : ∀ v' w', w'.ownsRow base 53 1 v' (n + 1) (l ++ [u]) → w.grownBy w' v.ownBlock → Moved w v v' → wpList Try.prog ops Q rest (a.put o.dst v') w') :
    wpList Try.prog ops Q (o :: rest) a (w.alloc (.cells #[u] 53)) :=
  wpList_app1 hgd s x _ _ 24 _ u ho Try.underlying76 info_movesN rfl base v n _ hs hown m hm hx hu (by omega) (by decide) hbase h

end Go.Proofs.Ytdkpdpcecjcmcaa
