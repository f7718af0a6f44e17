/- What first computes. -/
import Derived.Test.YtgjpdnaeldpdeaaWd40
import Derived.Test.YtgjpdnaeldpdeaaWd32
namespace Go.Proofs.Ytgjpdnaeldpdeaa
open Go.RowKit

theorem info_ints : (Try.prog.info? 22).map (fun i => (i.zero, i.size, i.bytes)) = some (some (.slice none 0 0), 1, 24) := by kernel_rfl

/-- 'append' of a row to rows of the call's own. -/
theorem app_row {ops : Array Oper} {rest : List Oper} {o : Oper} {a : Act} {Q : Exit → Act → World → Prop} {w : World} (hgd : o.guard = none) (s x : Operand) (u : Value)
    (ho : o.op = .call { callee := .builtin .append, args := #[s, x], argTypes := #[25, 25] })
    (base : Nat) (v : Value) (n : Nat) (l : List Value) (hown : w.ownsRow base 22 1 v n l) (hs : a.eval s = v) (m : Nat) (hm : m = w.heap.size) (hx : a.eval x = .slice (some ⟨m, 0, none⟩) 1 1) (hu : u.oneCell' = true)
    (hn : n < 5864062014000) (hbase : base ≤ w.heap.size)
    (h : ∀ v' w', w'.ownsRow base 22 1 v' (n + 1) (l ++ [u]) → w.grownBy w' v.ownBlock → Moved w v v' → wpList Try.prog ops Q rest (a.put o.dst v') w') :
    wpList Try.prog ops Q (o :: rest) a (w.alloc (.cells #[u] 22)) :=
  wpList_app1 hgd s x _ _ 24 _ u ho Try.underlying25 info_ints rfl base v n _ hs hown m hm hx hu (by omega) (by decide) hbase h

theorem IsInts.blk {w w' : World} {g n c : Nat} {l : List Int} (h : IsInts w (.slice (some ⟨g, 0, none⟩) n c) l) (hb : w'.heap[g]? = w.heap[g]?) : IsInts w' (.slice (some ⟨g, 0, none⟩) n c) l := by
  obtain ⟨⟨ao, cap, b, off, e, k⟩, r⟩ := h
  obtain ⟨rfl, rfl, rfl⟩ : some ⟨g, 0, none⟩ = ao ∧ n = l.length ∧ c = cap := by simpa using e
  refine ⟨⟨_, _, b, off, rfl, ⟨k.lc, k.cm, k.nm, k.nc, k.ad, fun j hj => ?_⟩⟩, r⟩
  have := k.el j hj
  obtain ⟨rfl, rfl⟩ : g = b ∧ 0 = off := by have := k.ad (by omega); simpa using this
  unfold World.cell? at *
  simp only [hb]
  exact this

/-- The rows that are done. -/
def GotR (W : World) (ob : Option Nat) (vals : List Value) : Prop :=
  ∀ i, i < vals.length → ∃ g c, vals[i]? = some (.slice (some ⟨g, 0, none⟩) 64 c) ∧ g < W.heap.size ∧ ob ≠ some g ∧ IsInts W (.slice (some ⟨g, 0, none⟩) 64 c) (List.replicate 64 (i : Int))
theorem GotR.below {W W' : World} {ob : Option Nat} {vals : List Value} (h : GotR W ob vals) (hb : Below W.heap.size W W') : GotR W' ob vals := fun i hi => by
  obtain ⟨g, c, h1, h2, h3, h4⟩ := h i hi
  exact ⟨g, c, h1, Nat.lt_of_lt_of_le h2 hb.size, h3, h4.below hb⟩
theorem GotR.put {W W' : World} {v v' : Value} {vals : List Value} {g c : Nat} (h : GotR W v.ownBlock vals) (hg : g < W.heap.size) (hv : v.ownBlock ≠ some g) (hr : IsInts W (.slice (some ⟨g, 0, none⟩) 64 c) (List.replicate 64 (vals.length : Int)))
    (hgr : W.grownBy W' v.ownBlock) (hm : Moved W v v') : GotR W' v'.ownBlock (vals ++ [.slice (some ⟨g, 0, none⟩) 64 c]) := fun i hi => by
  rw [List.length_append] at hi
  have hne : ∀ g', g' < W.heap.size → v.ownBlock ≠ some g' → v'.ownBlock ≠ some g' := fun g' h1 h2 he => by
    rcases hm g' he with h | h
    · exact h2 h
    · omega
  rcases Nat.lt_or_ge i vals.length with hlt | hge
  · obtain ⟨g', c', h1, h2, h3, h4⟩ := h i hlt
    exact ⟨g', c', by rw [List.getElem?_append_left hlt]; exact h1, Nat.lt_of_lt_of_le h2 hgr.size, hne g' h2 h3, h4.blk (hgr.block g' h2 h3.symm)⟩
  · obtain rfl : i = vals.length := by simp at hi; omega
    exact ⟨g, c, by simp, Nat.lt_of_lt_of_le hg hgr.size, hne g hg hv, hr.blk (hgr.block g hg hv.symm)⟩

/-- A table given back. -/
def GiveT (t : List (List Int)) (w : World) (e : Ending) (w' : World) : Prop := ∃ v, e = .returned v ∧ RV t v w' ∧ Below w.heap.size w w'

theorem GotR.done {W : World} {base : Nat} {v : Value} {vals : List Value} (h : GotR W v.ownBlock vals) (hl : vals.length = 64) (ho : W.ownsRow base 22 1 v 64 vals) : RV firstT v W := by
  refine ⟨fun j => vals.getD j undef, ?_, fun j hj => ?_⟩
  · rw [show firstT.length = 64 by simp [firstT]]
    refine ownsRow_arr ho (by unfold maxN; omega) _ fun j hj => ?_
    rw [List.getD_eq_getElem?_getD, List.getElem?_eq_getElem (by omega)]; rfl
  · have hj : j < 64 := by simpa [firstT] using hj
    obtain ⟨g, c, h1, -, -, h4⟩ := h j (by omega)
    show IsInts W (vals.getD j undef) _
    rw [List.getD_eq_getElem?_getD (l := vals), h1]
    have : firstT.getD j [] = List.replicate 64 (j : Int) := by simp [firstT, List.getD, hj]
    rw [this]
    exact h4

set_option maxHeartbeats 2000000 in
theorem first_c (w : World) : Calls Try.prog 32 #[] w (GiveT firstT w) := by
  go_enter Try.func32, Try.ntmps32
  go_wp2
  go_loopg [1, 2, 3, 4] 64 (fun gh out i _ _ wr => ∃ (k : Nat) (vals : List Value), gh = 64 - k ∧ i = .int .i64 k ∧ k ≤ 64 ∧ Hid (vals.length = k) ∧ Hid (wr.ownsRow w.heap.size 22 1 out k vals) ∧ Hid (GotR wr out.ownBlock vals) ∧ Below w.heap.size w wr)
  case atStart => exact ⟨0, [], by omega, rfl, by omega, rfl, ⟨by simp, .inl ⟨rfl, rfl⟩⟩, fun i hi => absurd hi (by simp), Below.refl _ _⟩
  case round =>
    obtain ⟨k, vals, rfl, rfl, hk, HVL, HO, HG, hb⟩ := hrel
    by_cases hlt : k < 64
    · have hki : (k : Int) < 64 := by omega
      obtain ⟨wo, rfl⟩ : ∃ wo : World, wo = wr := ⟨_, rfl⟩
      go_wp2
      go_loopg [3, 4] 64 (fun gh s i wx => ∃ j : Nat, gh = 64 - j ∧ i = .int .i64 j ∧ j ≤ 64 ∧ Hid (OI wx wo.heap.size s (List.replicate j (k : Int))) ∧ Below wo.heap.size wo wx)
      case atStart => exact ⟨0, by omega, rfl, by omega, OI_nil _ _, Below.refl _ _⟩
      case round =>
        obtain ⟨j, rfl, rfl, hj, HI, hc⟩ := hrel
        by_cases hlj : j < 64
        · have hji : (j : Int) < 64 := by omega
          have hz := hc.size
          go_wp2_with (at_builtin; refine app_int rfl _ _ (k : Int) rfl wo.heap.size _ _ HI.out rfl _ (by simp) rfl (by simp; omega) hz ?_; intro v' w' hown' hg hmv; have HO4 := Lib.hid hown'; have HC4 := Lib.hid (hc.grown hg hz (fun g h => HI.out.ge g h)); clear hown' hg hmv)
          go_roundg (64 - (j + 1))
          case rel => exact ⟨j + 1, by omega, by go_num, by omega, by rw [List.replicate_succ']; exact HO4, HC4.out⟩
          case measure => omega
        · obtain rfl : j = 64 := by omega
          have hIs := HI.out.is (by simp [maxN]) (by simp [I64]; omega)
          obtain ⟨g, c, hv, hg1, hg2⟩ := HI.out.row (by simp)
          rw [List.length_replicate] at hv
          subst hv
          have HR := Lib.hid hIs
          have hO2 := World.ownsRow.kept HO.out (below_grown hc) (by cases u1.ownBlock <;> simp)
          have HO2 := Lib.hid hO2
          have HG2 := Lib.hid (HG.out.below hc)
          have hne : u1.ownBlock ≠ some g := fun h => by
            have := (World.ownsRow.lt HO.out g h).2
            omega
          have HB2 := Lib.hid (hb.trans (hc.mono hb.size))
          have hz : w.heap.size ≤ wr.heap.size := HB2.out.size
          have HNe := Lib.hid hne
          clear HI HO HG hc hIs hO2 hne hb
          go_wp2_with (at_builtin; refine app_row rfl _ _ _ rfl w.heap.size _ k vals HO2.out rfl _ (by simp) rfl rfl (by omega) hz ?_; intro v' w' hown' hg hmv; have HO4 := Lib.hid hown'; have HG4 := Lib.hid (GotR.put HG2.out hg2 HNe.out (by rw [HVL.out]; exact HR.out) hg hmv); have HC4 := Lib.hid (HB2.out.grown hg hz (fun g h => (World.ownsRow.lt HO2.out g h).1)); clear hown' hg hmv)
          go_roundg (64 - (k + 1))
          case rel => exact ⟨k + 1, _, rfl, by go_num, by omega, by show _ = _; rw [List.length_append, HVL.out]; rfl, HO4, HG4, HC4.out⟩
          case measure => omega
    · obtain rfl : k = 64 := by omega
      go_wp2
      go_ret
      exact ⟨_, rfl, HG.out.done HVL.out HO.out, hb⟩

end Go.Proofs.Ytgjpdnaeldpdeaa
