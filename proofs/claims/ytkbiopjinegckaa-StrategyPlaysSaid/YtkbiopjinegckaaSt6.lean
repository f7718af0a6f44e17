/- The search for components as the code holds it: order of the first visits, stack, open positions, components. -/
import Derived.Test.YtkbiopjinegckaaSt1
namespace Go.Proofs.Ytkbiopjinegckaa

theorem nd_len {n : Nat} {l : List Nat} (hn : l.Nodup) (h : ∀ v ∈ l, v < n) : l.length ≤ n := by
  have := List.Nodup.length_le_of_subset hn (l₂ := List.range n) fun v hv => List.mem_range.2 (h v hv)
  simpa using this

structure Rep (n : Nat) (part : Nat → Prop) (t : Tj) (ord stk : List Nat) (opn : List Bool) (comps : List (List Nat)) : Prop where
  num : ∀ v, t.num v = if v ∈ ord then ord.idxOf v + 1 else 0
  cnt : t.cnt = ord.length
  sk : t.stk = stk
  nd : ord.Nodup
  op : ∀ v ∈ ord, part v
  on : opn.length = n
  oi : ∀ v, v < n → (opn.getD v false = true ↔ part v ∧ t.prt v = 0)
  cw : ∀ c ∈ comps, c ≠ [] ∧ c.Nodup ∧ ∃ r, r ≠ 0 ∧ ∀ v, v ∈ c ↔ t.prt v = r
  cc : ∀ v, t.prt v ≠ 0 → ∃ c ∈ comps, v ∈ c

section
variable {n : Nat} {part : Nat → Prop} {t : Tj} {ord stk : List Nat} {opn : List Bool} {comps : List (List Nat)} {E : Nat → Nat → Prop} {G : List Nat} {s : Nat}
theorem Rep.in_ord (h : Rep n part t ord stk opn comps) {v : Nat} : t.num v ≠ 0 ↔ v ∈ ord := by
  rw [h.num v]
  by_cases k : v ∈ ord
  · rw [if_pos k]; exact ⟨fun _ => k, fun _ => by omega⟩
  · rw [if_neg k]; exact ⟨fun e => absurd rfl e, fun e => absurd e k⟩
theorem Rep.at (h : Rep n part t ord stk opn comps) {v : Nat} (k : v ∈ ord) : t.num v = ord.idxOf v + 1 := by rw [h.num v, if_pos k]
theorem Rep.len (h : Rep n part t ord stk opn comps) (hp : ∀ v, part v → v < n) : ord.length ≤ n := nd_len h.nd fun v hv => hp v (h.op v hv)
theorem Rep.room (h : Rep n part t ord stk opn comps) (hp : ∀ v, part v → v < n) (hs : s ∉ ord) (hps : part s) : ord.length < n := by
  have := nd_len (n := n) (l := s :: ord) (List.nodup_cons.2 ⟨hs, h.nd⟩) fun v hv => by
    rcases List.mem_cons.1 hv with rfl | hv
    · exact hp _ hps
    · exact hp v (h.op v hv)
  rw [List.length_cons] at this
  omega
theorem idxN_pre {l e : List Nat} {y : Nat} (h : y ∈ l) : (l ++ e).idxOf y = l.idxOf y := by
  rw [List.idxOf_append, if_pos h]
theorem idxN_new {l : List Nat} {y : Nat} (h : y ∉ l) : (l ++ [y]).idxOf y = l.length := by
  rw [List.idxOf_append, if_neg h]; simp
theorem prt_zero (h : TInv E t G) {v : Nat} (hv : t.num v = 0) : t.prt v = 0 := by
  cases hp : t.prt v with
  | zero => rfl
  | succ n => exact absurd hv (h.pn v (by rw [hp]; omega)).1
/-- A visit is opened. -/
theorem Rep.openV (h : Rep n part t ord stk opn comps) (hs : s ∉ ord) (hps : part s) : Rep n part (t.openV s) (ord ++ [s]) (stk ++ [s]) opn comps := by
  refine ⟨fun v => ?_, by show t.cnt + 1 = _; rw [h.cnt]; simp, by show t.stk ++ [s] = _; rw [h.sk], ?_, fun v hv => ?_, h.on, h.oi, h.cw, h.cc⟩
  · by_cases hv : v = s
    · subst hv
      rw [if_pos (by simp), idxN_new hs, ← h.cnt]; exact upN_same _ _ _
    · have e : (t.openV s).num v = t.num v := upN_ne _ _ _ _ hv
      rw [e, h.num v]
      by_cases hm : v ∈ ord
      · rw [if_pos hm, if_pos (List.mem_append_left _ hm), idxN_pre hm]
      · rw [if_neg hm, if_neg (by simp [hm, hv])]
  · rw [List.nodup_append]
    exact ⟨h.nd, by simp, fun a ha b hb => by rw [List.mem_singleton.1 hb]; rintro rfl; exact hs ha⟩
  · rcases List.mem_append.1 hv with k | k
    · exact h.op v k
    · rw [List.mem_singleton.1 k]; exact hps
theorem Rep.setLow (h : Rep n part t ord stk opn comps) (f : Nat → Nat) : Rep n part { t with low := f } ord stk opn comps := ⟨h.num, h.cnt, h.sk, h.nd, h.op, h.on, h.oi, h.cw, h.cc⟩
/-- The end of a stack becomes a component. -/
theorem Rep.pop {t0 : Tj} {stk0 r : List Nat} {opn' : List Bool} (h : Rep n part t ord (stk0 ++ s :: r) opn comps) (hi : TInv E t G) (h0 : t0.stk = stk0) (hl : opn'.length = n)
    (ho : ∀ v, v < n → (opn'.getD v false = true ↔ opn.getD v false = true ∧ v ∉ s :: r)) : Rep n part (t.pop t0 s) ord stk0 opn' (comps ++ [s :: r]) := by
  have hst : t.stk = stk0 ++ s :: r := h.sk
  have hnd := hi.nd
  rw [hst, List.nodup_append] at hnd
  have hss : s ∈ t.stk := by rw [hst]; simp
  have hns := (hi.st s).1 hss
  have hin : ∀ v, (v ∈ t.stk ∧ v ∉ t0.stk) ↔ v ∈ s :: r := fun v => by
    rw [hst, h0, List.mem_append]
    refine ⟨fun k => k.1.resolve_left k.2, fun k => ⟨.inr k, fun k2 => hnd.2.2 v k2 v k rfl⟩⟩
  have hp : ∀ v, (t.pop t0 s).prt v = if v ∈ s :: r then t.num s else t.prt v := fun v => by
    show (if v ∈ t.stk ∧ v ∉ t0.stk then t.num s else t.prt v) = _
    by_cases k : v ∈ s :: r
    · rw [if_pos ((hin v).2 k), if_pos k]
    · rw [if_neg (fun e => k ((hin v).1 e)), if_neg k]
  have hz : ∀ v ∈ s :: r, t.prt v = 0 := fun v hv => ((hi.st v).1 ((hin v).2 hv).1).2
  have hne : ∀ v, t.prt v ≠ t.num s := fun v e => by
    have hv : t.prt v ≠ 0 := by rw [e]; exact hns.1
    obtain ⟨-, r', k1, k2⟩ := hi.pn v hv
    have : r' = s := hi.inj r' s (by rw [k2]; exact hv) (by rw [k2, e])
    subst this
    rw [k1] at hns
    exact hv hns.2
  refine ⟨h.num, h.cnt, h0, h.nd, h.op, hl, fun v hv => ?_, fun c hc => ?_, fun v hv => ?_⟩
  · rw [ho v hv, h.oi v hv, hp v]
    by_cases k : v ∈ s :: r
    · rw [if_pos k]
      exact ⟨fun e => absurd k e.2, fun e => absurd e.2 hns.1⟩
    · rw [if_neg k]
      exact ⟨fun e => e.1, fun e => ⟨e, k⟩⟩
  · rcases List.mem_append.1 hc with hc | hc
    · obtain ⟨k1, k2, q, k3, k4⟩ := h.cw c hc
      refine ⟨k1, k2, q, k3, fun v => ?_⟩
      rw [k4 v, hp v]
      by_cases k : v ∈ s :: r
      · rw [if_pos k, hz v k]
        refine ⟨fun e => absurd e.symm k3, fun e => ?_⟩
        exfalso
        obtain ⟨x, hx⟩ := List.exists_mem_of_ne_nil c k1
        have := (k4 x).1 hx
        exact hne x (by rw [this, e])
      · rw [if_neg k]
    · rw [List.mem_singleton.1 hc]
      refine ⟨by simp, hnd.2.1, t.num s, hns.1, fun v => ?_⟩
      rw [hp v]
      by_cases k : v ∈ s :: r
      · rw [if_pos k]; exact ⟨fun _ => rfl, fun _ => k⟩
      · rw [if_neg k]; exact ⟨fun e => absurd e k, fun e => absurd e (hne v)⟩
  · rw [hp v] at hv
    by_cases k : v ∈ s :: r
    · exact ⟨_, by simp, k⟩
    · rw [if_neg k] at hv
      obtain ⟨c, k1, k2⟩ := h.cc v hv
      exact ⟨c, List.mem_append_left _ k1, k2⟩

/-- The least number of s is lowered to the number of a node on the stack. -/
def Tj.lowerN (t : Tj) (s u : Nat) : Tj := { t with low := upN t.low s (min (t.low s) (t.num u)) }
theorem TInv.lowerN {u : Nat} (h : TInv E t G) (hs : s ∈ t.stk) (hu : u ∈ t.stk) (he : Rch E s u) : TInv E (t.lowerN s u) G :=
  { h with
    lw := fun v hv => by
      by_cases hvs : v = s
      · subst hvs
        have e : (t.lowerN v u).low v = min (t.low v) (t.num u) := upN_same _ _ _
        rw [e]
        obtain ⟨h1, z, hz, h2, h3⟩ := h.lw v hs
        refine ⟨by show _ ≤ t.num v; omega, ?_⟩
        by_cases hc : t.low v ≤ t.num u
        · exact ⟨z, hz, by show t.num z = _; omega, h3⟩
        · exact ⟨u, hu, by show t.num u = _; omega, he⟩
      · have e : (t.lowerN s u).low v = t.low v := upN_ne _ _ _ _ hvs
        rw [e]
        exact h.lw v hv }
theorem TMid.lowN {t0 : Tj} {u : Nat} {done : Nat → Prop} (h : TMid E t0 t s G done) (hu : u ∈ t.stk) (he : E s u) : TMid E t0 (t.lowerN s u) s G (fun x => done x ∨ x = u) := by
  have e : (t.lowerN s u).low s = min (t.low s) (t.num u) := upN_same _ _ _
  refine ⟨h.inv.lowerN h.smem hu (Rch.one he), h.nu, h.pr, h.sk, fun v hv => ?_, h.z0, h.gr, fun y hy h1 h2 x hx hE => ?_, fun x hx => ?_⟩
  · have : (t.lowerN s u).low v = t.low v := upN_ne _ _ _ _ fun k => h.z0 (k ▸ hv)
    rw [this]; exact h.lo v hv
  · rw [e]
    have := h.cr y hy h1 h2 x hx hE
    show _ ≤ t.num x
    omega
  · rw [e]
    rcases hx with hx | rfl
    · obtain ⟨k1, k2⟩ := h.dn x hx
      exact ⟨k1, fun hm => by have := k2 hm; show _ ≤ t.num x; omega⟩
    · refine ⟨((h.inv.st x).1 hu).1, fun _ => ?_⟩
      show _ ≤ t.num x
      omega

/-- What a visit leaves, with all that its caller wants to know. -/
structure VPost (E : Nat → Nat → Prop) (t t' : Tj) (s : Nat) (G : List Nat) : Prop where
  po : TPost E t t' s G
  nw : t'.num s = t.cnt + 1
  lo : t'.prt s ≠ 0 → t'.low s = t'.num s
  cn : t.cnt < t'.cnt

/-- Within the visit of s. -/
structure VMid (E : Nat → Nat → Prop) (t0 t : Tj) (s : Nat) (G : List Nat) (done : Nat → Prop) : Prop where
  mi : TMid E t0 t s G done
  nw : t.num s = t0.cnt + 1
  cn : t0.cnt < t.cnt
section
variable {t0 t' : Tj} {u : Nat} {done : Nat → Prop}
theorem VMid.start (h : TInv E t0 G) (hs : t0.num s = 0) (hg : ∀ g ∈ G, Rch E g s) : VMid E t0 (t0.openV s) s G (fun _ => False) :=
  ⟨TMid.start h hs hg, upN_same _ _ _, Nat.lt_succ_self _⟩
theorem VMid.more (h : VMid E t0 t s G done) {done' : Nat → Prop} (hd : ∀ u, done' u → done u) : VMid E t0 t s G done' := ⟨h.mi.more fun u hu => .inl (hd u hu), h.nw, h.cn⟩
theorem VMid.skip (h : VMid E t0 t s G done) (hu : t.prt u ≠ 0) : VMid E t0 t s G (fun x => done x ∨ x = u) := ⟨h.mi.skip hu, h.nw, h.cn⟩
theorem VMid.lowN (h : VMid E t0 t s G done) (hu : u ∈ t.stk) (he : E s u) : VMid E t0 (t.lowerN s u) s G (fun x => done x ∨ x = u) := ⟨h.mi.lowN hu he, h.nw, h.cn⟩
theorem VMid.low_le (h : VMid E t0 t s G done) : t.low s ≤ t.num s := (h.mi.inv.lw s h.mi.smem).1
theorem VMid.sn (h : VMid E t0 t s G done) : t.num s ≠ 0 := by rw [h.nw]; omega
/-- Behind a visit of a successor: the state with the least number of s lowered. -/
theorem VMid.visit (h : VMid E t0 t s G done) (he : E s u) (hp : VPost E t t' u (G ++ [s])) : ∃ t2, VMid E t0 t2 s G (fun x => done x ∨ x = u) ∧ (∃ f, t2 = { t' with low := f }) ∧ t2.low s = min (t.low s) (t'.low u) := by
  have hsl : t'.low s = t.low s := hp.po.ext.lo s h.mi.smem
  have hns : t'.num s = t0.cnt + 1 := by rw [hp.po.ext.nu s h.sn]; exact h.nw
  have hcn : t0.cnt < t'.cnt := Nat.lt_trans h.cn hp.cn
  by_cases hpu : t'.prt u = 0
  · exact ⟨t'.lower s u, ⟨h.mi.visitLow he hp.po hpu, hns, hcn⟩, ⟨_, rfl⟩, by rw [← hsl]; exact upN_same _ _ _⟩
  · refine ⟨t', ⟨h.mi.visitIn hp.po hpu, hns, hcn⟩, ⟨t'.low, rfl⟩, ?_⟩
    rw [hsl, hp.lo hpu, hp.nw]
    have := h.low_le
    have := h.nw
    have := h.cn
    omega
theorem VMid.leave (h : VMid E t0 t s G done) (hall : ∀ u, E s u → done u) (hlt : t.low s ≠ t.num s) : VPost E t0 t s G := by
  have := h.low_le
  have hs0 := (h.mi.inv.st s).1 h.mi.smem
  exact ⟨h.mi.leave hall (by omega), h.nw, fun k => absurd hs0.2 k, h.cn⟩
theorem VMid.close (h : VMid E t0 t s G done) (hall : ∀ u, E s u → done u) (heq : t.low s = t.num s) : VPost E t0 (t.pop t0 s) s G :=
  ⟨h.mi.close hall heq, h.nw, fun _ => heq, h.cn⟩
end
end

end Go.Proofs.Ytkbiopjinegckaa
