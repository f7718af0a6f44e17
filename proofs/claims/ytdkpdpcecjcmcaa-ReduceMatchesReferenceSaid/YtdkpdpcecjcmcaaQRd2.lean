/- New priorities of moves as the program gives them (all moves below the least priority of the other parity at once): the same values as one after the other. Lowering the lowered ones again changes nothing; a cycle keeps the parity of its least priority. -/
import Derived.Test.YtdkpdpcecjcmcaaQTj1
namespace Go.Proofs.Ytdkpdpcecjcmcaa

section
variable {tg : Mv → Nat} {pr : Mv → Int} {S T : Mv → Prop} {m m' m'' : Mv} {b k v t : Int}
/-- A way within a set, from a place of a component tg one of it, stays within the component. -/
theorem inC_way (h : OnC tg S m) {u : Nat} (hu : Rch (EdS tg S) (tg m) u) (hb : Rch (EdS tg S) u m.1) (hT : ∀ x, InC tg S m x → T x) : Rch (EdS tg T) (tg m) u := by
  induction hu with
  | refl => exact Rch.refl _
  | @step c d hc he ih =>
    obtain ⟨x, hx, hx1, hx2⟩ := he
    have hcb : Rch (EdS tg S) c m.1 := (Rch.one ⟨x, hx, hx1, hx2⟩).trans hb
    have hin : InC tg S m x := ⟨hx, (Rch.one (ed_of h.1)).trans (by rw [hx1]; exact hc), by rw [hx2]; exact hb⟩
    exact (ih hcb).step ⟨x, hT x hin, hx1, hx2⟩
/-- The component of a move in a smaller set that holds all of the component is the same. -/
theorem inC_sub (h : OnC tg S m) (hS : ∀ x, T x → S x) (hT : ∀ x, InC tg S m x → T x) : OnC tg T m ∧ InC tg T m = InC tg S m := by
  have hm := hT m h.self
  have hon : OnC tg T m := ⟨hm, inC_way h h.2 (Rch.refl _) hT⟩
  refine ⟨hon, funext fun x => propext ⟨fun hx => ⟨hS _ hx.1, hx.2.1.mono (ed_mono hS), hx.2.2.mono (ed_mono hS)⟩, fun hx => ?_⟩⟩
  have h1 : Rch (EdS tg T) (tg m) x.1 := inC_way h (h.2.trans hx.2.1) ((Rch.one (ed_of hx.1)).trans hx.2.2) hT
  have hox : OnC tg S x := OnC.of hx
  have hsame := InC.same h hx
  refine ⟨hT x hx, (Rch.one (ed_of hm)).trans h1, ?_⟩
  exact inC_way hox hx.2.2 hx.2.1 (fun y hy => hT y (by rw [hsame]; exact hy))
theorem Val.local (hon : OnC tg T m → OnC tg S m ∧ InC tg T m = InC tg S m) (hoff : S m → OnC tg S m → OnC tg T m) (hS : S m) (h : Val tg pr T b m v) : Val tg pr S b m v := by
  cases h with
  | out h1 h2 => exact .out hS fun h => h2 (hoff hS h)
  | least h1 h2 =>
    obtain ⟨h3, h4⟩ := hon h1
    refine .least h3 ?_
    unfold LeastC at h2 ⊢
    rw [← h4]; exact h2
  | @rest _ _ _ k _ h1 h2 h3 h5 =>
    obtain ⟨h6, h4⟩ := hon h1
    have e : RestC tg pr T m k = RestC tg pr S m k := by unfold RestC; rw [h4]
    rw [e] at h5
    refine .rest h6 ?_ h3 h5
    unfold LeastC at h2 ⊢
    rw [← h4]; exact h2
/-- A move below a threshold, of which all moves have the bound's parity, gets the bound. -/
theorem Val.belowT {l : List Mv} : ∀ (n : Nat) {S : Mv → Prop} {m : Mv}, cntM l S ≤ n → (∀ m, S m → m ∈ l) → (∀ x, S x → pr x < t → pr x % 2 = b % 2) → S m → pr m < t → Val tg pr S b m b := by
  intro n
  induction n with
  | zero =>
    intro S m hn hl _ hm _
    exact .out hm fun h => by
      obtain ⟨k, hk⟩ := least_ex (pr := pr) hl h
      have := rest_lt (tg := tg) (pr := pr) hl hk
      omega
  | succ n ih =>
    intro S m hn hl hp hm ht
    by_cases h : OnC tg S m
    · obtain ⟨k, hk⟩ := least_ex (pr := pr) hl h
      have h1 := rest_lt (tg := tg) (pr := pr) hl hk
      have h2 := hk.2 m h.self
      obtain ⟨x, hx, hxk⟩ := id hk.1
      have hq : qB b k = b := qB_same (by rw [← hxk]; exact (hp x hx.1 (by omega)).symm)
      by_cases e : pr m = k
      · have := Val.least (pr := pr) (b := b) h (by rw [e]; exact hk)
        rwa [e, hq] at this
      · refine .rest h hk (by omega) ?_
        rw [hq]
        exact ih (by omega) (rest_in hl) (fun y hy => hp y hy.1.1) ⟨h.self, by omega⟩ ht
    · exact .out hm h
/-- The moves below such a threshold may be left out. -/
theorem Val.drop {l : List Mv} : ∀ (n : Nat) {S : Mv → Prop} {m : Mv} {v : Int}, cntM l S ≤ n → (∀ m, S m → m ∈ l) → (∀ x, S x → pr x < t → pr x % 2 = b % 2) → Val tg pr (fun x => S x ∧ t ≤ pr x) b m v → Val tg pr S b m v := by
  intro n
  induction n with
  | zero =>
    intro S m v hn hl _ hv
    have hm := hv.mem
    have hno : ¬ OnC tg S m := fun h => by
      obtain ⟨k, hk⟩ := least_ex (pr := pr) hl h
      have := rest_lt (tg := tg) (pr := pr) hl hk
      omega
    have hno2 : ¬ OnC tg (fun x => S x ∧ t ≤ pr x) m := fun h => hno ⟨h.1.1, h.2.mono (ed_mono fun _ k => k.1)⟩
    rw [hv.out_inv hno2]
    exact .out hm.1 hno
  | succ n ih =>
    intro S m v hn hl hp hv
    have hm := hv.mem
    by_cases h : OnC tg S m
    · obtain ⟨k, hk⟩ := least_ex (pr := pr) hl h
      have h1 := rest_lt (tg := tg) (pr := pr) hl hk
      have h2 := hk.2 m h.self
      by_cases hkt : t ≤ k
      · have hs := inC_sub (T := fun x => S x ∧ t ≤ pr x) h (fun _ k => k.1) fun x hx => ⟨hx.1, by have := hk.2 x hx; omega⟩
        exact hv.local (fun _ => ⟨h, hs.2⟩) (fun _ _ => hs.1) hm.1
      · obtain ⟨x, hx, hxk⟩ := id hk.1
        have hq : qB b k = b := qB_same (by rw [← hxk]; exact (hp x hx.1 (by omega)).symm)
        have hkm : k < pr m := by have := hm.2; omega
        refine .rest h hk hkm ?_
        rw [hq]
        refine ih (by omega) (rest_in hl) (fun y hy => hp y hy.1.1) ?_
        have hRm : RestC tg pr S m k m ∧ t ≤ pr m := ⟨⟨h.self, hkm⟩, hm.2⟩
        refine hv.local (S := fun x => RestC tg pr S m k x ∧ t ≤ pr x) (fun ho => ?_) (fun _ ho => ?_) hRm
        · refine inC_sub (T := fun x => RestC tg pr S m k x ∧ t ≤ pr x) ho (fun y hy => ⟨hy.1.1.1, hy.2⟩) (fun y hy => ⟨⟨⟨hy.1.1, hy.2.1.mono (ed_mono fun _ k => k.1), hy.2.2.mono (ed_mono fun _ k => k.1)⟩, ?_⟩, hy.1.2⟩) |>.imp id Eq.symm
          have := hy.1.2; omega
        · exact ⟨hm, ho.2.mono (ed_mono fun y hy => ⟨hy.1.1.1, hy.2⟩)⟩
    · have hno2 : ¬ OnC tg (fun x => S x ∧ t ≤ pr x) m := fun k => h ⟨k.1.1, k.2.mono (ed_mono fun _ k => k.1)⟩
      rw [hv.out_inv hno2]
      exact .out hm.1 h

/-- Values as the program gives them: k is the least priority of a component; below t all of its priorities have k's parity. -/
inductive ValP (tg : Mv → Nat) (pr : Mv → Int) : (Mv → Prop) → Int → Mv → Int → Prop
  | out {S : Mv → Prop} {b : Int} {m : Mv} : S m → ¬ OnC tg S m → ValP tg pr S b m b
  | least {S : Mv → Prop} {b : Int} {m : Mv} {k t : Int} : OnC tg S m → LeastC tg pr S m k → (∀ x, InC tg S m x → pr x < t → pr x % 2 = k % 2) → pr m < t → ValP tg pr S b m (qB b k)
  | rest {S : Mv → Prop} {b : Int} {m : Mv} {k t v : Int} : OnC tg S m → LeastC tg pr S m k → (∀ x, InC tg S m x → pr x < t → pr x % 2 = k % 2) → k < t → t ≤ pr m → ValP tg pr (fun x => InC tg S m x ∧ t ≤ pr x) (qB b k) m v → ValP tg pr S b m v
theorem ValP.val {l : List Mv} (h : ValP tg pr S b m v) : (∀ m, S m → m ∈ l) → Val tg pr S b m v := by
  induction h with
  | out h1 h2 => intro _; exact .out h1 h2
  | @least S b m k t h1 h2 h3 h4 =>
    intro hl
    have h5 := h2.2 m h1.self
    by_cases e : pr m = k
    · subst e; exact .least h1 h2
    · refine .rest h1 h2 (by omega) ?_
      exact Val.belowT (l := l) (t := t) _ (Nat.le_refl _) (rest_in hl) (fun x hx ht => by rw [h3 x hx.1 ht, qB_par]) ⟨h1.self, by omega⟩ h4
  | @rest S b m k t v h1 h2 h3 h4 h5 _ ih =>
    intro hl
    refine .rest h1 h2 (by omega) ?_
    have hv := ih fun x hx => hl x hx.1.1
    refine Val.drop (l := l) (t := t) _ (Nat.le_refl _) (rest_in hl) (fun x hx ht => by rw [h3 x hx.1 ht, qB_par]) ?_
    have e : (fun x => RestC tg pr S m k x ∧ t ≤ pr x) = fun x => InC tg S m x ∧ t ≤ pr x := funext fun x => propext ⟨fun hx => ⟨hx.1.1, hx.2⟩, fun hx => ⟨⟨hx.1, by have := hx.2; omega⟩, hx.2⟩⟩
    rw [e]; exact hv

/-- Lowering the lowered priorities again changes nothing. -/
theorem Val.again {l : List Mv} {f : Mv → Int} (h : Val tg pr S b m v) : (∀ m, S m → m ∈ l) → (∀ x, S x → Val tg pr S b x (f x)) → Val tg f S b m (f m) := by
  induction h with
  | out h1 h2 =>
    intro _ hf
    rw [(hf _ h1).out_inv h2]
    exact .out h1 h2
  | @least S b m h1 h2 =>
    intro _ hf
    have e := (hf m h1.1).least_inv h1 h2 rfl
    have hl2 : LeastC tg f S m (f m) := by
      refine ⟨⟨m, h1.self, rfl⟩, fun x hx => ?_⟩
      rw [e]
      by_cases e2 : pr x = pr m
      · have := (hf x hx.1).least_inv (OnC.of hx) (h2.same h1 hx) e2
        omega
      · have h3 := h2.2 x hx
        exact ((hf x hx.1).rest_inv (OnC.of hx) (h2.same h1 hx) (by omega)).ge
    have := Val.least (b := b) h1 hl2
    rwa [e, show qB b (qB b (pr m)) = qB b (pr m) by unfold qB; omega, ← e] at this
  | @rest S b m k v h1 h2 h3 h4 ih =>
    intro hl hf
    have hge : ∀ x, InC tg S m x → qB b k ≤ f x := fun x hx => by
      by_cases e2 : pr x = k
      · have := (hf x hx.1).least_inv (OnC.of hx) (h2.same h1 hx) e2
        omega
      · have h3 := h2.2 x hx
        exact ((hf x hx.1).rest_inv (OnC.of hx) (h2.same h1 hx) (by omega)).ge
    have hl2 : LeastC tg f S m (qB b k) := by
      obtain ⟨y, hy, hyk⟩ := h2.1
      exact ⟨⟨y, hy, (hf y hy.1).least_inv (OnC.of hy) (h2.same h1 hy) hyk⟩, hge⟩
    have hqq : qB b (qB b k) = qB b k := by unfold qB; omega
    have hR : ∀ x, RestC tg pr S m k x → Val tg pr (RestC tg pr S m k) (qB b k) x (f x) := fun x hx => by
      have := (hf x hx.1.1).rest_inv (OnC.of hx.1) (h2.same h1 hx.1) hx.2
      rwa [← RestC.same h1 hx.1] at this
    have h5 := ih (rest_in hl) hR
    by_cases e : f m = qB b k
    · have := Val.least (tg := tg) (pr := f) (b := b) h1 (by rw [e]; exact hl2)
      rwa [e, hqq, ← e] at this
    · have hgt : qB b k < f m := by have := hge m h1.self; omega
      refine .rest h1 hl2 hgt ?_
      rw [hqq]
      have hin : ∀ x, RestC tg f S m (qB b k) x ↔ RestC tg pr S m k x ∧ qB b k + 1 ≤ f x := fun x => by
        constructor
        · rintro ⟨hx, hxl⟩
          refine ⟨⟨hx, ?_⟩, by omega⟩
          have h3 := h2.2 x hx
          by_cases e2 : pr x = k
          · have := (hf x hx.1).least_inv (OnC.of hx) (h2.same h1 hx) e2
            omega
          · omega
        · rintro ⟨hx, hxl⟩
          exact ⟨hx.1, by omega⟩
      have e3 : RestC tg f S m (qB b k) = fun x => RestC tg pr S m k x ∧ qB b k + 1 ≤ f x := funext fun x => propext (hin x)
      rw [e3]
      have hmem : RestC tg pr S m k m ∧ qB b k + 1 ≤ f m := ⟨⟨h1.self, h3⟩, by omega⟩
      obtain ⟨u, hu⟩ := Val.total (tg := tg) (pr := f) (l := l) _ (S := fun x => RestC tg pr S m k x ∧ qB b k + 1 ≤ f x) (b := qB b k) (m := m) (Nat.le_refl _) (fun x hx => hl x hx.1.1.1) hmem
      have h6 := Val.drop (l := l) (t := qB b k + 1) _ (Nat.le_refl _) (rest_in (k := k) (tg := tg) (pr := pr) (m := m) hl) (fun x hx ht => by
        have := (hR x hx).ge
        have : f x = qB b k := by omega
        rw [this]) hu
      rw [h5.det h6]
      exact hu

/-- A closed walk of a set: each move leads to the next one's state. -/
theorem Val.cycle {f : Mv → Int} (h : Val tg pr S b m v) : ∀ (c : Mv → Prop), c m → (∀ x, c x → S x) → (∀ x y, c x → c y → Rch (EdS tg c) (tg x) y.1) → (∀ x, c x → Val tg pr S b x (f x)) →
    ∀ p q : Int, ((∃ x, c x ∧ pr x = p) ∧ ∀ x, c x → p ≤ pr x) → ((∃ x, c x ∧ f x = q) ∧ ∀ x, c x → q ≤ f x) → p % 2 = q % 2 := by
  have hcy : ∀ {S : Mv → Prop} {c : Mv → Prop}, (∀ x, c x → S x) → (∀ x y, c x → c y → Rch (EdS tg c) (tg x) y.1) → ∀ x y, c x → c y → OnC tg S x ∧ InC tg S x y := fun hS hw x y hx hy =>
    ⟨⟨hS x hx, (hw x x hx hx).mono (ed_mono hS)⟩, hS y hy, (Rch.one (ed_of (hS x hx))).trans ((hw x y hx hy).mono (ed_mono hS)), (hw y x hy hx).mono (ed_mono hS)⟩
  induction h with
  | out h1 h2 =>
    intro c hm hS hw _ _ _ _ _
    exact absurd (hcy hS hw _ _ hm hm).1 h2
  | @least S b m h1 h2 =>
    rintro c hm hS hw hf p q ⟨⟨x, hx, rfl⟩, hp⟩ ⟨⟨y, hy, rfl⟩, hq⟩
    have e1 : pr x = pr m := by
      have := hp m hm
      have := h2.2 x (hcy hS hw m x hm hx).2
      omega
    have e2 := (hf m hm).least_inv h1 h2 rfl
    have h3 := hq m hm
    have hyC := (hcy hS hw m y hm hy).2
    have h4 : qB b (pr m) ≤ f y := by
      by_cases e : pr y = pr m
      · rw [(hf y hy).least_inv (OnC.of hyC) (h2.same h1 hyC) e]; omega
      · have := h2.2 y hyC
        exact ((hf y hy).rest_inv (OnC.of hyC) (h2.same h1 hyC) (by omega)).ge
    have : f y = qB b (pr m) := by omega
    rw [e1, this, qB_par]
  | @rest S b m k v h1 h2 h3 h4 ih =>
    rintro c hm hS hw hf p q ⟨⟨x, hx, rfl⟩, hp⟩ ⟨⟨y, hy, rfl⟩, hq⟩
    have hC : ∀ z, c z → InC tg S m z := fun z hz => (hcy hS hw m z hm hz).2
    have hlow : ∀ z, c z → pr z = k → f z = qB b k := fun z hz e => (hf z hz).least_inv (OnC.of (hC z hz)) (h2.same h1 (hC z hz)) e
    have hhi : ∀ z, c z → pr z ≠ k → Val tg pr (RestC tg pr S m k) (qB b k) z (f z) := fun z hz e => by
      have h5 := h2.2 z (hC z hz)
      have := (hf z hz).rest_inv (OnC.of (hC z hz)) (h2.same h1 (hC z hz)) (by omega)
      rwa [← RestC.same h1 (hC z hz)] at this
    by_cases e : pr x = k
    · have hge : qB b k ≤ f y := by
        by_cases e2 : pr y = k
        · rw [hlow y hy e2]; omega
        · exact (hhi y hy e2).ge
      have := hq x hx
      rw [hlow x hx e] at this
      rw [show f y = qB b k by omega, e, qB_par]
    · have hall : ∀ z, c z → pr z ≠ k := fun z hz e2 => by
        have := hp z hz
        have := h2.2 x (hC x hx)
        omega
      exact ih c hm (fun z hz => ⟨hC z hz, by have := h2.2 z (hC z hz); have := hall z hz; omega⟩) hw (fun z hz => hhi z hz (hall z hz)) _ _ ⟨⟨x, hx, rfl⟩, hp⟩ ⟨⟨y, hy, rfl⟩, hq⟩
end

end Go.Proofs.Ytdkpdpcecjcmcaa
