/- The search for components: a visit, step by step. -/
import Derived.Test.YtdkpdpcecjcmcaaQTj1
namespace Go.Proofs.Ytdkpdpcecjcmcaa

/-- Behind the visit of s. -/
structure TPost (E : Nat → Nat → Prop) (t t' : Tj) (s : Nat) (G : List Nat) : Prop where
  inv : TInv E t' G
  ext : TExt t t'
  nz : t'.num s ≠ 0
  cr : t'.prt s = 0 → ∀ y ∈ t'.stk, y ∉ t.stk → ∀ u ∈ t.stk, E y u → t'.low s ≤ t'.num u
  cl : t'.prt s ≠ 0 → t'.stk = t.stk

/-- Within the visit of s: some successors have been gone through. -/
structure TMid (E : Nat → Nat → Prop) (t0 t : Tj) (s : Nat) (G : List Nat) (done : Nat → Prop) : Prop where
  inv : TInv E t (G ++ [s])
  nu : ∀ v, t0.num v ≠ 0 → t.num v = t0.num v
  pr : ∀ v, t0.prt v ≠ 0 → t.prt v = t0.prt v
  sk : ∃ r, t.stk = t0.stk ++ s :: r
  lo : ∀ v ∈ t0.stk, t.low v = t0.low v
  z0 : s ∉ t0.stk
  gr : ∀ g ∈ G, g ∈ t0.stk
  cr : ∀ y ∈ t.stk, y ∉ t0.stk → y ≠ s → ∀ u ∈ t0.stk, E y u → t.low s ≤ t.num u
  dn : ∀ u, done u → t.num u ≠ 0 ∧ (u ∈ t0.stk → t.low s ≤ t.num u)

section
variable {E : Nat → Nat → Prop} {t0 t t' : Tj} {s u : Nat} {G : List Nat} {done : Nat → Prop}
theorem TMid.start (h : TInv E t0 G) (hs : t0.num s = 0) (hg : ∀ g ∈ G, Rch E g s) : TMid E t0 (t0.openV s) s G (fun _ => False) := by
  have hns : s ∉ t0.stk := fun hm => ((h.st s).1 hm).1 hs
  refine ⟨h.openV hs hg, fun v hv => upN_ne _ _ _ _ fun e => hv (e ▸ hs), fun _ _ => rfl, ⟨[], rfl⟩, fun v hv => upN_ne _ _ _ _ fun e => hns (e ▸ hv), hns, h.gs, fun y hy h1 h2 => ?_, fun _ h => h.elim⟩
  have : y ∈ t0.stk ++ [s] := hy
  rcases List.mem_append.1 this with k | k
  · exact absurd k h1
  · exact absurd (List.mem_singleton.1 k) h2
theorem TMid.smem (h : TMid E t0 t s G done) : s ∈ t.stk := by
  obtain ⟨r, hr⟩ := h.sk
  rw [hr]; simp
theorem TMid.more (h : TMid E t0 t s G done) {done' : Nat → Prop} (hd : ∀ u, done' u → done u ∨ (t.num u ≠ 0 ∧ (u ∈ t0.stk → t.low s ≤ t.num u))) : TMid E t0 t s G done' :=
  { h with dn := fun u hu => (hd u hu).elim (h.dn u) id }
/-- A successor that is in a part is passed by. -/
theorem TMid.skip (h : TMid E t0 t s G done) (hu : t.prt u ≠ 0) : TMid E t0 t s G (fun x => done x ∨ x = u) :=
  h.more fun x hx => hx.imp id fun e => by
    subst e
    refine ⟨(h.inv.pn x hu).1, fun hm => ?_⟩
    exfalso
    obtain ⟨r, hr⟩ := h.sk
    have : x ∈ t.stk := by rw [hr]; exact List.mem_append_left _ hm
    exact hu ((h.inv.st x).1 this).2
/-- The least number of s is lowered to that of a node on the stack. -/
def Tj.lower (t : Tj) (s u : Nat) : Tj := { t with low := upN t.low s (min (t.low s) (t.low u)) }
theorem TInv.lower (h : TInv E t G) (hs : s ∈ t.stk) (hu : u ∈ t.stk) (he : Rch E s u) : TInv E (t.lower s u) G :=
  { h with
    lw := fun v hv => by
      by_cases hvs : v = s
      · subst hvs
        have e : (t.lower v u).low v = min (t.low v) (t.low u) := upN_same _ _ _
        rw [e]
        obtain ⟨h1, z, hz, h2, h3⟩ := h.lw v hs
        obtain ⟨k1, y, hy, k2, k3⟩ := h.lw u hu
        refine ⟨by show _ ≤ t.num v; omega, ?_⟩
        by_cases hc : t.low v ≤ t.low u
        · exact ⟨z, hz, by show t.num z = _; omega, h3⟩
        · exact ⟨y, hy, by show t.num y = _; omega, he.trans k3⟩
      · have e : (t.lower s u).low v = t.low v := upN_ne _ _ _ _ hvs
        rw [e]
        exact h.lw v hv }
theorem TMid.low (h : TMid E t0 t s G done) (hu : u ∈ t.stk) (he : E s u) : TMid E t0 (t.lower s u) s G (fun x => done x ∨ x = u) := by
  have e : (t.lower s u).low s = min (t.low s) (t.low u) := upN_same _ _ _
  refine ⟨h.inv.lower h.smem hu (Rch.one he), h.nu, h.pr, h.sk, fun v hv => ?_, h.z0, h.gr, fun y hy h1 h2 x hx hE => ?_, fun x hx => ?_⟩
  · have : (t.lower s u).low v = t.low v := upN_ne _ _ _ _ fun k => h.z0 (k ▸ hv)
    rw [this]; exact h.lo v hv
  · rw [e]
    have := h.cr y hy h1 h2 x hx hE
    show _ ≤ t.num x
    omega
  · rw [e]
    rcases hx with hx | rfl
    · obtain ⟨k1, k2⟩ := h.dn x hx
      exact ⟨k1, fun hm => by have := k2 hm; show _ ≤ t.num x; omega⟩
    · refine ⟨((h.inv.st x).1 hu).1, fun _ => ?_⟩
      have := (h.inv.lw x hu).1
      show _ ≤ t.num x
      omega
/-- What a visit of a successor wants. -/
theorem TMid.pre (h : TMid E t0 t s G done) (he : E s u) : ∀ g ∈ G ++ [s], Rch E g u := fun g hg => by
  rcases List.mem_append.1 hg with k | k
  · obtain ⟨r, hr⟩ := h.sk
    have h1 := h.gr g k
    have h2 : g ∈ t.stk := h.inv.gs g hg
    have hlt : t.num g < t.num s := by
      have := h.inv.so
      rw [hr, List.pairwise_append] at this
      exact this.2.2 g h1 s (by simp)
    exact (h.inv.up g h2 s h.smem (by omega)).step he
  · rw [List.mem_singleton.1 k]; exact Rch.one he
theorem TMid.inn (h : TMid E t0 t s G done) : ∀ v ∈ t0.stk, v ∈ t.stk := fun v hv => by
  obtain ⟨r, hr⟩ := h.sk
  rw [hr]; exact List.mem_append_left _ hv
/-- A successor has been visited, and is on the stack. -/
theorem TMid.visitLow (h : TMid E t0 t s G done) (he : E s u) (hp : TPost E t t' u (G ++ [s])) (hpu : t'.prt u = 0) : TMid E t0 (t'.lower s u) s G (fun x => done x ∨ x = u) := by
  obtain ⟨r, hr⟩ := h.sk
  obtain ⟨r', hr'⟩ := hp.ext.sk
  have hsl : t'.low s = t.low s := hp.ext.lo s h.smem
  have hnum : ∀ v ∈ t.stk, t'.num v = t.num v := fun v hv => hp.ext.nu v ((h.inv.st v).1 hv).1
  have hus : u ∈ t'.stk := (hp.inv.st u).2 ⟨hp.nz, hpu⟩
  have hss : s ∈ t'.stk := hp.inv.gs s (by simp)
  have e : (t'.lower s u).low s = min (t.low s) (t'.low u) := by rw [← hsl]; exact upN_same _ _ _
  refine ⟨hp.inv.lower hss hus (Rch.one he), fun v hv => ?_, fun v hv => ?_, ⟨r ++ r', ?_⟩, fun v hv => ?_, h.z0, h.gr, fun y hy h1 h2 x hx hE => ?_, fun x hx => ?_⟩
  · show t'.num v = _
    rw [hp.ext.nu v (by rw [h.nu v hv]; exact hv), h.nu v hv]
  · show t'.prt v = _
    rw [hp.ext.pr v (by rw [h.pr v hv]; exact hv), h.pr v hv]
  · show t'.stk = _
    rw [hr', hr]; simp
  · have : (t'.lower s u).low v = t'.low v := upN_ne _ _ _ _ fun k => h.z0 (k ▸ hv)
    rw [this, hp.ext.lo v (h.inn v hv), h.lo v hv]
  · rw [e]
    have hxn := hnum x (h.inn x hx)
    show _ ≤ t'.num x
    by_cases hyt : y ∈ t.stk
    · have := h.cr y hyt h1 h2 x hx hE
      omega
    · have := hp.cr hpu y hy hyt x (h.inn x hx) hE
      omega
  · rw [e]
    rcases hx with hx | rfl
    · obtain ⟨k1, k2⟩ := h.dn x hx
      have e2 := hp.ext.nu x k1
      refine ⟨by show t'.num x ≠ 0; rw [e2]; exact k1, fun hm => ?_⟩
      have := k2 hm
      show _ ≤ t'.num x
      omega
    · refine ⟨hp.nz, fun _ => ?_⟩
      have := (hp.inv.lw x hus).1
      show _ ≤ t'.num x
      omega
/-- A successor has been visited, and is in a part. -/
theorem TMid.visitIn (h : TMid E t0 t s G done) (hp : TPost E t t' u (G ++ [s])) (hpu : t'.prt u ≠ 0) : TMid E t0 t' s G (fun x => done x ∨ x = u) := by
  have hst := hp.cl hpu
  have hsl : t'.low s = t.low s := hp.ext.lo s h.smem
  have hnum : ∀ v ∈ t.stk, t'.num v = t.num v := fun v hv => hp.ext.nu v ((h.inv.st v).1 hv).1
  refine ⟨hp.inv, fun v hv => ?_, fun v hv => ?_, by rw [hst]; exact h.sk, fun v hv => ?_, h.z0, h.gr, fun y hy h1 h2 x hx hE => ?_, fun x hx => ?_⟩
  · rw [hp.ext.nu v (by rw [h.nu v hv]; exact hv), h.nu v hv]
  · rw [hp.ext.pr v (by rw [h.pr v hv]; exact hv), h.pr v hv]
  · rw [hp.ext.lo v (h.inn v hv), h.lo v hv]
  · rw [hst] at hy
    rw [hsl, hnum x (h.inn x hx)]
    exact h.cr y hy h1 h2 x hx hE
  · rcases hx with hx | rfl
    · obtain ⟨k1, k2⟩ := h.dn x hx
      have e2 := hp.ext.nu x k1
      exact ⟨by rw [e2]; exact k1, fun hm => by rw [hsl, e2]; exact k2 hm⟩
    · refine ⟨hp.nz, fun hm => ?_⟩
      have : x ∈ t'.stk := by rw [hst]; exact h.inn x hm
      exact absurd ((hp.inv.st x).1 this).2 hpu

theorem TMid.before (h : TMid E t0 t s G done) : ∀ v ∈ t0.stk, t.num v < t.num s := fun v hv => by
  obtain ⟨r, hr⟩ := h.sk
  have := h.inv.so
  rw [hr, List.pairwise_append] at this
  exact this.2.2 v hv s (by simp)
theorem TMid.behind (h : TMid E t0 t s G done) : ∀ v ∈ t.stk, v ∉ t0.stk → t.num s ≤ t.num v := fun v hv hn => by
  obtain ⟨r, hr⟩ := h.sk
  rw [hr] at hv
  rcases List.mem_append.1 hv with k | k
  · exact absurd k hn
  · rcases List.mem_cons.1 k with rfl | k
    · exact Nat.le_refl _
    · have := h.inv.so
      rw [hr, List.pairwise_append, List.pairwise_cons] at this
      exact Nat.le_of_lt (this.2.1.1 v k)
/-- The visit ends; s stays on the stack. -/
theorem TMid.leave (h : TMid E t0 t s G done) (hall : ∀ u, E s u → done u) (hlt : t.low s < t.num s) : TPost E t0 t s G := by
  obtain ⟨z, hz, hz1, hz2⟩ := (h.inv.lw s h.smem).2
  obtain ⟨g0, hg0, hg1, hg2⟩ := h.inv.dn z hz
  have hg0G : g0 ∈ G := by
    rcases List.mem_append.1 hg0 with k | k
    · exact k
    · rw [List.mem_singleton.1 k] at hg1; omega
  refine ⟨{ h.inv with gs := fun g hg => h.inv.gs g (List.mem_append_left _ hg), bw := fun v u hv hvG e => ?_, dn := fun y hy => ?_ }, ⟨h.nu, h.pr, ?_, h.lo⟩, ((h.inv.st s).1 h.smem).1, fun _ y hy hyn u hu e => ?_, fun k => absurd ((h.inv.st s).1 h.smem).2 k⟩
  · by_cases hvs : v = s
    · subst hvs; exact (h.dn u (hall u e)).1
    · exact h.inv.bw v u hv (fun k => by
        rcases List.mem_append.1 k with k | k
        · exact hvG k
        · exact hvs (List.mem_singleton.1 k)) e
  · obtain ⟨g, hg, k1, k2⟩ := h.inv.dn y hy
    rcases List.mem_append.1 hg with k | k
    · exact ⟨g, k, k1, k2⟩
    · rw [List.mem_singleton.1 k] at k1 k2
      exact ⟨g0, hg0G, by omega, k2.trans (hz2.trans hg2)⟩
  · obtain ⟨r, hr⟩ := h.sk
    exact ⟨s :: r, hr⟩
  · by_cases hys : y = s
    · subst hys; exact (h.dn u (hall u e)).2 hu
    · exact h.cr y hy hyn hys u hu e
/-- The stack is taken down to s. -/
def Tj.pop (t t0 : Tj) (s : Nat) : Tj := { t with prt := fun v => if v ∈ t.stk ∧ v ∉ t0.stk then t.num s else t.prt v, stk := t0.stk }
/-- The visit ends; s and what lies above it become a part. -/
theorem TMid.close (h : TMid E t0 t s G done) (hall : ∀ u, E s u → done u) (heq : t.low s = t.num s) : TPost E t0 (t.pop t0 s) s G := by
  have hs0 := (h.inv.st s).1 h.smem
  have hin : ∀ v, v ∈ t.stk → v ∉ t0.stk → (t.pop t0 s).prt v = t.num s := fun v h1 h2 => if_pos ⟨h1, h2⟩
  have hout : ∀ v, ¬ (v ∈ t.stk ∧ v ∉ t0.stk) → (t.pop t0 s).prt v = t.prt v := fun v h1 => if_neg h1
  have hold : ∀ v, t.prt v ≠ 0 → (t.pop t0 s).prt v = t.prt v := fun v hv => hout v fun k => hv ((h.inv.st v).1 k.1).2
  have hz : ∀ v ∈ t0.stk, (t.pop t0 s).prt v = 0 := fun v hv => by
    rw [hout v fun k => k.2 hv]; exact ((h.inv.st v).1 (h.inn v hv)).2
  have hnz : ∀ v, (t.pop t0 s).prt v ≠ 0 → t.prt v ≠ 0 ∨ (v ∈ t.stk ∧ v ∉ t0.stk) := fun v hv => by
    by_cases k : v ∈ t.stk ∧ v ∉ t0.stk
    · exact .inr k
    · rw [hout v k] at hv; exact .inl hv
  have hnew : ∀ v u, v ∈ t.stk → v ∉ t0.stk → E v u → (t.pop t0 s).prt u ≠ 0 := fun v u h1 h2 e => by
    have hun : t.num u ≠ 0 := by
      by_cases hvs : v = s
      · subst hvs; exact (h.dn u (hall u e)).1
      · exact h.inv.bw v u ((h.inv.st v).1 h1).1 (fun k => by
          rcases List.mem_append.1 k with k | k
          · exact h2 (h.gr v k)
          · exact hvs (List.mem_singleton.1 k)) e
    by_cases hup : t.prt u = 0
    · have hus : u ∈ t.stk := (h.inv.st u).2 ⟨hun, hup⟩
      by_cases hu0 : u ∈ t0.stk
      · exfalso
        have h3 := h.before u hu0
        have h4 : t.low s ≤ t.num u := by
          by_cases hvs : v = s
          · subst hvs; exact (h.dn u (hall u e)).2 hu0
          · exact h.cr v h1 h2 hvs u hu0 e
        omega
      · rw [hin u hus hu0]; exact hs0.1
    · rw [hold u hup]; exact hup
  have hfc : ∀ v u, (t.pop t0 s).prt v ≠ 0 → E v u → (t.pop t0 s).prt u ≠ 0 := fun v u hv e => by
    rcases hnz v hv with k | k
    · have := h.inv.fc v u k e
      rw [hold u this]; exact this
    · exact hnew v u k.1 k.2 e
  have hto : ∀ y, y ∈ t.stk → y ∉ t0.stk → Rch E y s ∧ Rch E s y := fun y h1 h2 => by
    obtain ⟨g, hg, -, k2⟩ := h.inv.dn y h1
    refine ⟨?_, h.inv.up s h.smem y h1 (h.behind y h1 h2)⟩
    rcases List.mem_append.1 hg with k | k
    · exfalso
      have := Rch.closed (A := fun v => (t.pop t0 s).prt v ≠ 0) hfc k2 (by rw [hin y h1 h2]; exact hs0.1)
      exact this (hz g (h.gr g k))
    · rw [List.mem_singleton.1 k] at k2; exact k2
  have hcross : ∀ u v, t.prt u ≠ 0 → v ∈ t.stk → v ∉ t0.stk → (t.prt u ≠ t.num s) ∧ ¬ Rch E u v := fun u v hu h1 h2 => by
    refine ⟨fun e => ?_, fun k => ?_⟩
    · obtain ⟨-, r', k1, k2⟩ := h.inv.pn u hu
      have : r' = s := h.inv.inj r' s (by rw [k2]; exact hu) (by rw [k2, e])
      subst this
      rw [k1] at hs0
      exact hu hs0.2
    · have := Rch.closed (A := fun v => t.prt v ≠ 0) (fun x y => h.inv.fc x y) k hu
      exact this ((h.inv.st v).1 h1).2
  obtain ⟨r, hr⟩ := h.sk
  have hsub : t0.stk.Sublist t.stk := by rw [hr]; exact List.sublist_append_left _ _
  refine ⟨⟨h.inv.nd.sublist hsub, fun v => ?_, h.inv.so.sublist hsub, h.inv.le, h.inv.inj, fun v hv => ?_, h.gr, fun v u hv hvG e => ?_, hfc, fun x hx y hy => h.inv.up x (h.inn x hx) y (h.inn y hy), fun y hy => ?_, fun v hv => ?_, fun u v hu hv => ?_⟩, ⟨h.nu, fun v hv => ?_, ⟨[], by show t0.stk = _; simp⟩, h.lo⟩, hs0.1, fun k => ?_, fun _ => rfl⟩
  · show v ∈ t0.stk ↔ t.num v ≠ 0 ∧ _
    constructor
    · intro hv
      exact ⟨((h.inv.st v).1 (h.inn v hv)).1, hz v hv⟩
    · rintro ⟨k1, k2⟩
      by_cases hv : v ∈ t0.stk
      · exact hv
      · exfalso
        by_cases hvt : v ∈ t.stk
        · rw [hin v hvt hv] at k2; exact hs0.1 k2
        · rw [hout v fun k => hvt k.1] at k2
          exact hvt ((h.inv.st v).2 ⟨k1, k2⟩)
  · show t.num v ≠ 0 ∧ ∃ r, _ ∧ t.num r = _
    rcases hnz v hv with k | k
    · obtain ⟨k1, r', k2, k3⟩ := h.inv.pn v k
      refine ⟨k1, r', ?_, ?_⟩
      · rw [hold v k, hold r' (by rw [k2]; exact k), k2]
      · rw [hold v k]; exact k3
    · rw [hin v k.1 k.2]
      exact ⟨((h.inv.st v).1 k.1).1, s, hin s h.smem h.z0, rfl⟩
  · by_cases hvs : v = s
    · subst hvs; exact (h.dn u (hall u e)).1
    · exact h.inv.bw v u hv (fun k => by
        rcases List.mem_append.1 k with k | k
        · exact hvG k
        · exact hvs (List.mem_singleton.1 k)) e
  · obtain ⟨g, hg, k1, k2⟩ := h.inv.dn y (h.inn y hy)
    rcases List.mem_append.1 hg with k | k
    · exact ⟨g, k, k1, k2⟩
    · rw [List.mem_singleton.1 k] at k1
      have := h.before y hy
      omega
  · obtain ⟨h1, z, hz1, h2, h3⟩ := h.inv.lw v (h.inn v hv)
    refine ⟨h1, z, ?_, h2, h3⟩
    show z ∈ t0.stk
    by_cases hz0 : z ∈ t0.stk
    · exact hz0
    · exfalso
      have h4 := h.behind z hz1 hz0
      have h5 := h.before v hv
      have h6 : t.low v ≤ t.num v := h1
      omega
  · rcases hnz u hu with k | k
    · rcases hnz v hv with k' | k'
      · rw [hold u k, hold v k']
        exact h.inv.eq u v k k'
      · rw [hold u k, hin v k'.1 k'.2]
        obtain ⟨c1, c2⟩ := hcross u v k k'.1 k'.2
        exact ⟨fun e => absurd e c1, fun e => absurd e.1 c2⟩
    · rcases hnz v hv with k' | k'
      · rw [hold v k', hin u k.1 k.2]
        obtain ⟨c1, c2⟩ := hcross v u k' k.1 k.2
        exact ⟨fun e => absurd e.symm c1, fun e => absurd e.2 c2⟩
      · rw [hin u k.1 k.2, hin v k'.1 k'.2]
        obtain ⟨a1, a2⟩ := hto u k.1 k.2
        obtain ⟨b1, b2⟩ := hto v k'.1 k'.2
        exact ⟨fun _ => ⟨a1.trans b2, b1.trans a2⟩, fun _ => rfl⟩
  · have hv' : t.prt v ≠ 0 := by rw [h.pr v hv]; exact hv
    rw [hold v hv', h.pr v hv]
  · rw [hin s h.smem h.z0] at k
    exact absurd k hs0.1
end

end Go.Proofs.Ytdkpdpcecjcmcaa
