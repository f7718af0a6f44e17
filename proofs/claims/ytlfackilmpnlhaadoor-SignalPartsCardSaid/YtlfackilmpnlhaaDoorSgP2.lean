/- Letters, their halves and their values: the laws, in plain lists. -/
import Derived.Test.YtlfackilmpnlhaaDoorSgP1
namespace Go.Proofs.YtlfackilmpnlhaaDoor

theorem low_mod {d z x : Int} (h0 : 0 ≤ d) (h1 : d < z) : (d + z * x) % z = d := by
  rw [Int.add_mul_emod_self_left]; exact Int.emod_eq_of_lt h0 h1
theorem low_div {d z x : Int} (h0 : 0 ≤ d) (h1 : d < z) : (d + z * x) / z = x := by
  rw [Int.add_mul_ediv_left _ _ (by omega), Int.ediv_eq_zero_of_lt h0 h1]; omega
theorem mod_div (a z : Int) : a % z + z * (a / z) = a := Int.emod_add_mul_ediv a z
theorem mod_bd (a : Int) {z : Int} (h : 2 ≤ z) : 0 ≤ a % z ∧ a % z < z := ⟨Int.emod_nonneg a (by omega), Int.emod_lt_of_pos a (by omega)⟩
theorem div_bd {a z p : Int} (h : 2 ≤ z) (h0 : 0 ≤ a) (h1 : a < z * p) : 0 ≤ a / z ∧ a / z < p := ⟨Int.ediv_nonneg h0 (by omega), Int.ediv_lt_of_lt_mul (by omega) (by rw [Int.mul_comm]; exact h1)⟩

theorem half_bd (q : Bool) {l : List Sig} (hz : ∀ s ∈ l, sizeB s = true) : ∀ a, 0 ≤ halfL q l a ∧ halfL q l a < prodC (fun s => s.inp == q) l := by
  induction l with
  | nil => intro a; simp [halfL, prodC]
  | cons s r ih =>
    intro a
    have hs := (sizes_pos hz s (by simp)).1
    obtain ⟨h0, h1⟩ := ih (fun x hx => hz x (List.mem_cons_of_mem _ hx)) (a / s.size)
    obtain ⟨d0, d1⟩ := mod_bd a hs
    simp only [halfL, prodC]
    split
    · exact half_hit_bd d0 d1 h0 h1
    · exact ⟨h0, h1⟩

theorem join_half {l : List Sig} (hz : ∀ s ∈ l, sizeB s = true) : ∀ a, 0 ≤ a → a < prodL l → joinL l (halfL true l a) (halfL false l a) = a := by
  induction l with
  | nil => intro a h0 h1; simp [prodL] at h1; simp [joinL]; omega
  | cons s r ih =>
    intro a h0 h1
    have hs := (sizes_pos hz s (by simp)).1
    obtain ⟨d0, d1⟩ := mod_bd a hs
    simp only [prodL] at h1
    obtain ⟨e0, e1⟩ := div_bd hs h0 h1
    have IH := ih (fun x hx => hz x (List.mem_cons_of_mem _ hx)) (a / s.size) e0 e1
    simp only [joinL, halfL]
    cases hq : s.inp
    · simp only [Bool.false_eq_true, if_false, beq_self_eq_true, if_true, show (false == true) = false from rfl]
      rw [low_mod d0 d1, low_div d0 d1, IH, mod_div]
    · simp only [if_true, beq_self_eq_true, Bool.false_eq_true, if_false, show (true == false) = false from rfl]
      rw [low_mod d0 d1, low_div d0 d1, IH, mod_div]

theorem join_bd {l : List Sig} (hz : ∀ s ∈ l, sizeB s = true) : ∀ i o, 0 ≤ joinL l i o ∧ joinL l i o < prodL l := by
  induction l with
  | nil => intro i o; simp [joinL, prodL]
  | cons s r ih =>
    intro i o
    have hs := (sizes_pos hz s (by simp)).1
    simp only [joinL, prodL]
    split
    · obtain ⟨d0, d1⟩ := mod_bd i hs
      obtain ⟨h0, h1⟩ := ih (fun x hx => hz x (List.mem_cons_of_mem _ hx)) (i / s.size) o
      exact half_hit_bd d0 d1 h0 h1
    · obtain ⟨d0, d1⟩ := mod_bd o hs
      obtain ⟨h0, h1⟩ := ih (fun x hx => hz x (List.mem_cons_of_mem _ hx)) i (o / s.size)
      exact half_hit_bd d0 d1 h0 h1

theorem half_join {l : List Sig} (hz : ∀ s ∈ l, sizeB s = true) : ∀ i o, 0 ≤ i → i < prodC (fun s => s.inp == true) l → 0 ≤ o → o < prodC (fun s => s.inp == false) l →
    halfL true l (joinL l i o) = i ∧ halfL false l (joinL l i o) = o := by
  induction l with
  | nil => intro i o h0 h1 h2 h3; simp [prodC] at h1 h3; simp [halfL]; omega
  | cons s r ih =>
    intro i o h0 h1 h2 h3
    have hs := (sizes_pos hz s (by simp)).1
    have hzr : ∀ s ∈ r, sizeB s = true := fun x hx => hz x (List.mem_cons_of_mem _ hx)
    simp only [prodC] at h1 h3
    simp only [joinL, halfL]
    cases hq : s.inp
    · simp only [hq, show (false == true) = false from rfl, beq_self_eq_true, Bool.false_eq_true, if_false, if_true] at h1 h3 ⊢
      obtain ⟨d0, d1⟩ := mod_bd o hs
      obtain ⟨e0, e1⟩ := div_bd hs h2 h3
      obtain ⟨g0, g1⟩ := ih hzr i (o / s.size) h0 h1 e0 e1
      rw [low_mod d0 d1, low_div d0 d1, g0, g1, mod_div]
      exact ⟨rfl, rfl⟩
    · simp only [hq, show (true == false) = false from rfl, beq_self_eq_true, Bool.false_eq_true, if_false, if_true] at h1 h3 ⊢
      obtain ⟨d0, d1⟩ := mod_bd i hs
      obtain ⟨e0, e1⟩ := div_bd hs h0 h1
      obtain ⟨g0, g1⟩ := ih hzr (i / s.size) o e0 e1 h2 h3
      rw [low_mod d0 d1, low_div d0 d1, g0, g1, mod_div]
      exact ⟨rfl, rfl⟩

/-! Values. -/

theorem mk_dig {l : List Sig} (hz : ∀ s ∈ l, sizeB s = true) : ∀ a, 0 ≤ a → a < prodL l → mkL l (digL l a) = some a := by
  induction l with
  | nil => intro a h0 h1; simp [prodL] at h1; simp [mkL, digL]; omega
  | cons s r ih =>
    intro a h0 h1
    have hs := (sizes_pos hz s (by simp)).1
    simp only [prodL] at h1
    obtain ⟨e0, e1⟩ := div_bd hs h0 h1
    have d := mod_bd a hs
    simp only [mkL, digL]
    rw [if_pos d, ih (fun x hx => hz x (List.mem_cons_of_mem _ hx)) _ e0 e1, Option.map_some, mod_div]

theorem dig_mk {l : List Sig} : ∀ (vals : List Int) (n : Int), mkL l vals = some n → digL l n = vals ∧ 0 ≤ n ∧ n < prodL l := by
  induction l with
  | nil =>
    intro vals n h
    cases vals with
    | nil => simp only [mkL, Option.some.injEq] at h; subst h; simp [digL, prodL]
    | cons v vs => simp [mkL] at h
  | cons s r ih =>
    intro vals n h
    cases vals with
    | nil => simp [mkL] at h
    | cons v vs =>
      simp only [mkL] at h
      split at h
      · rename_i hg
        cases hr : mkL r vs with
        | none => rw [hr] at h; simp at h
        | some m =>
          rw [hr, Option.map_some, Option.some.injEq] at h
          subst h
          obtain ⟨i1, i2, i3⟩ := ih vs m hr
          simp only [digL, prodL]
          rw [low_mod hg.1 hg.2, low_div hg.1 hg.2, i1]
          exact ⟨rfl, half_hit_bd hg.1 hg.2 i2 i3⟩
      · simp at h

theorem dig_ok {l : List Sig} (hz : ∀ s ∈ l, sizeB s = true) (a : Int) (k : Nat) (hk : k < l.length) : 0 ≤ (digL l a).getD k 0 ∧ (digL l a).getD k 0 < l[k].size := by
  rw [digL_get hz a k hk]
  exact mod_bd _ (sizes_pos hz _ (List.getElem_mem hk)).1

/-! Halves by values. -/

theorem half_same (q : Bool) {l : List Sig} (hz : ∀ s ∈ l, sizeB s = true) : ∀ a b, halfL q l a = halfL q l b ↔ ∀ k (_ : k < l.length), (l.getD k sig0).inp = q → (digL l a).getD k 0 = (digL l b).getD k 0 := by
  induction l with
  | nil => intro a b; simp [halfL]
  | cons s r ih =>
    intro a b
    have hs := (sizes_pos hz s (by simp)).1
    have IH := ih (fun x hx => hz x (List.mem_cons_of_mem _ hx)) (a / s.size) (b / s.size)
    obtain ⟨a0, a1⟩ := mod_bd a hs
    obtain ⟨b0, b1⟩ := mod_bd b hs
    simp only [halfL, digL]
    have hall : (∀ k (_ : k < (s :: r).length), ((s :: r).getD k sig0).inp = q → (a % s.size :: digL r (a / s.size)).getD k 0 = (b % s.size :: digL r (b / s.size)).getD k 0) ↔
        (s.inp = q → a % s.size = b % s.size) ∧ (∀ k (_ : k < r.length), (r.getD k sig0).inp = q → (digL r (a / s.size)).getD k 0 = (digL r (b / s.size)).getD k 0) := by
      constructor
      · intro h
        exact ⟨fun hq => by simpa using h 0 (by simp) (by simpa using hq), fun k hk hq => by simpa using h (k + 1) (by simpa using hk) (by simpa using hq)⟩
      · rintro ⟨h1, h2⟩ k hk hq
        cases k with
        | zero => simpa using h1 (by simpa using hq)
        | succ k => simpa using h2 k (by simpa using hk) (by simpa using hq)
    rw [hall, ← IH]
    by_cases hq : s.inp = q
    · rw [if_pos (by simp [hq])]
      rw [if_pos (by simp [hq])]
      constructor
      · intro h
        have e1 : (a % s.size + s.size * halfL q r (a / s.size)) % s.size = (b % s.size + s.size * halfL q r (b / s.size)) % s.size := by rw [h]
        have e2 : (a % s.size + s.size * halfL q r (a / s.size)) / s.size = (b % s.size + s.size * halfL q r (b / s.size)) / s.size := by rw [h]
        rw [low_mod a0 a1, low_mod b0 b1] at e1
        rw [low_div a0 a1, low_div b0 b1] at e2
        exact ⟨fun _ => e1, e2⟩
      · rintro ⟨h1, h2⟩
        rw [h1 hq, h2]
    · rw [if_neg (by simp [hq]), if_neg (by simp [hq])]
      exact ⟨fun h => ⟨fun e => absurd e hq, h⟩, fun h => h.2⟩

/-- A half, of the values. -/
def halfV (q : Bool) : List Sig → List Int → Int
  | s :: r, v :: vs => if (s.inp == q) = true then v + s.size * halfV q r vs else halfV q r vs
  | _, _ => 0
theorem half_dig (q : Bool) (l : List Sig) : ∀ a, halfL q l a = halfV q l (digL l a) := by
  induction l with
  | nil => intro a; rfl
  | cons s r ih => intro a; simp only [halfL, digL, halfV, ih]

/-- The values with one of them raised. -/
def upV (v : List Int) (i : Nat) : List Int := v.set i (v.getD i 0 + 1)

theorem mk_up {l : List Sig} : ∀ (v : List Int) (i : Nat) (n : Int), i < l.length → mkL l v = some n →
    mkL l (upV v i) = if v.getD i 0 + 1 < (l.getD i sig0).size then some (n + prodL (l.take i)) else none := by
  induction l with
  | nil => intro v i n hi; simp at hi
  | cons s r ih =>
    intro v i n hi h
    cases v with
    | nil => simp [mkL] at h
    | cons x vs =>
      simp only [mkL] at h
      split at h
      · rename_i hg
        cases hr : mkL r vs with
        | none => rw [hr] at h; simp at h
        | some m =>
          rw [hr, Option.map_some, Option.some.injEq] at h
          subst h
          cases i with
          | zero =>
            simp only [upV, List.getD_cons_zero, List.set_cons_zero, mkL, hr, List.take_zero, prodL]
            by_cases hc : x + 1 < s.size
            · rw [if_pos hc, if_pos ⟨by omega, hc⟩, Option.map_some]; congr 1; omega
            · rw [if_neg hc, if_neg (by omega)]
          | succ i =>
            have IH := ih vs i m (by simpa using hi) hr
            simp only [upV, List.getD_cons_succ, List.set_cons_succ, mkL, List.take_succ_cons, prodL] at IH ⊢
            rw [if_pos hg, IH]
            split
            · rw [Option.map_some, Int.mul_add, Int.add_assoc]
            · rfl
      · simp at h

theorem half_up (q : Bool) {l : List Sig} : ∀ (v : List Int) (i : Nat), i < l.length → v.length = l.length →
    halfV q l (upV v i) = halfV q l v + if ((l.getD i sig0).inp == q) = true then prodC (fun s => s.inp == q) (l.take i) else 0 := by
  induction l with
  | nil => intro v i hi; simp at hi
  | cons s r ih =>
    intro v i hi hl
    cases v with
    | nil => simp at hl
    | cons x vs =>
      cases i with
      | zero =>
        simp only [upV, List.getD_cons_zero, List.set_cons_zero, halfV, List.take_zero, prodC]
        split <;> omega
      | succ i =>
        have IH := ih vs i (by simpa using hi) (by simpa using hl)
        simp only [upV, List.getD_cons_succ, List.set_cons_succ, halfV, List.take_succ_cons, prodC] at IH ⊢
        rw [IH]
        by_cases hs : (s.inp == q) = true
        · simp only [hs, if_true]
          split
          · rw [Int.mul_add, Int.add_assoc]
          · simp
        · simp only [hs]; rfl

end Go.Proofs.YtlfackilmpnlhaaDoor
