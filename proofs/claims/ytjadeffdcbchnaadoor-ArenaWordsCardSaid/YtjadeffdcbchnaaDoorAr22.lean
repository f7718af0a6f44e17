/- The reference's number: a place is looked for in a list, and appended to it. -/
import Derived.Test.YtjadeffdcbchnaaDoorAr21
import Derived.Test.YtjadeffdcbchnaaDoorRegFree
namespace Go.Proofs.YtjadeffdcbchnaaDoor
open Go.RowKit

/-- A place is appended. -/
theorem app_place {ops : Array Oper} {rest : List Oper} {o : Oper} {a : Act} {Q : Exit → Act → World → Prop} {w : World} (hgd : o.guard = none) (s x : Operand) (y : Pl)
    (ho : o.op = .call { callee := .builtin .append, args := #[s, x], argTypes := #[34, 34] })
    (base : Nat) (v : Value) (l : List Pl) (hown : OP w base v l) (hs : a.eval s = v) (m : Nat) (hm : m = w.heap.size) (hx : a.eval x = .slice (some ⟨m, 0, none⟩) 1 1)
    (hn : l.length < 5864062014000) (hbase : base ≤ w.heap.size)
    (h : ∀ v' w', OP w' base v' (l ++ [y]) → w.grownBy w' v.ownBlock → Moved w v v' → wpList Tryd.prog ops Q rest (a.put o.dst v') w') :
    wpList Tryd.prog ops Q (o :: rest) a (w.alloc (.cells #[.int .i64 y.st, .int .i64 y.inn, .int .i64 y.pr] 48)) := by
  subst hm
  refine wpList_app hgd s x _ _ 3 24 _ ho Tryd.underlying34 info_place rfl (by decide) base v l.length _ hs (World.ownsRow.alloc hown _) ⟨w.heap.size, 0, none⟩ 1 1 (plCs y) hx rfl (World.news_of_block (cs := #[.int .i64 y.st, .int .i64 y.inn, .int .i64 y.pr]) (t := 48) (fr := (0, 0)) (heap_alloc_new w _)) (by simp [plCs, Value.oneCell']) (by simp only [maxLen]; omega) (by omega) (by simp; omega) ?_
  intro v' w' h1 h2 _ h4
  refine h v' w' ?_ ⟨h2.os, h2.tape, h2.output, by have := h2.size; simp at this; omega, fun k hk hr => ?_⟩ (fun g hg => ?_)
  · unfold OP
    rw [List.length_append, plsC_snoc]
    exact h1
  · rw [h2.block k (by simp; omega) hr]; exact (bel_box (w := w) _).block k hk
  · rcases h4 g hg with e | e
    · exact .inl e
    · refine .inr ?_
      simp at e; omega

def NumOut (base : Nat) (v : Value) (l : List Pl) (x : Pl) (w : World) (e : Ending) (w' : World) : Prop :=
  ∃ v', e = .returned (.tuple #[v', .int .i64 ((addP l x).idxOf x : Int)]) ∧ OP w' base v' (addP l x) ∧ w.grownBy w' v.ownBlock ∧ Moved w v v'

theorem grown_trans {a b c : World} {r : Option Nat} (h : a.grownBy b r) (k : b.grownBy c r) : a.grownBy c r :=
  ⟨k.os.trans h.os, k.tape.trans h.tape, k.output.trans h.output, Nat.le_trans h.size k.size, fun i hi hr => (k.block i (Nat.lt_of_lt_of_le hi h.size) hr).trans (h.block i hi hr)⟩
theorem grown_below {a b : World} (h : Below a.heap.size a b) (r : Option Nat) : a.grownBy b r := ⟨h.os, h.tape, h.output, h.size, fun i hi _ => h.block i hi⟩

set_option maxHeartbeats 2000000 in
theorem number_c (w : World) (base : Nat) (v : Value) (l : List Pl) (x : Pl) (ho : OP w base v l) (hw : ∀ y ∈ l, WfP y) (hx : WfP x) (hn : l.length ≤ 100000) (hb : base ≤ w.heap.size) :
    Calls Tryd.prog 46 #[v, plV x] w (NumOut base v l x w) := by
  obtain ⟨ao, cap, rfl⟩ := ho.slice
  have HFND : Hid (∀ k, (h : k < l.length) → l[k] = x → (∀ y ∈ l.take k, y ≠ x) → addP l x = l ∧ (addP l x).idxOf x = k) := fun k h e hf => by
    have hm : x ∈ l := by rw [← e]; exact List.getElem_mem h
    refine ⟨if_pos hm, ?_⟩
    rw [show addP l x = l from if_pos hm]
    have h1 : (l.take k ++ l.drop k).idxOf x = k := by
      have h2 : l.drop k = x :: l.drop (k + 1) := by rw [← e]; exact List.drop_eq_getElem_cons h
      rw [h2]
      have h3 : x ∉ l.take k := fun hx => hf x hx rfl
      rw [List.idxOf_append, if_neg h3, List.idxOf_cons_self, List.length_take]
      omega
    rwa [List.take_append_drop] at h1
  have HNEW : Hid ((∀ y ∈ l, y ≠ x) → addP l x = l ++ [x] ∧ (addP l x).idxOf x = l.length) := fun hf => by
    have hm : x ∉ l := fun h => hf x h rfl
    rw [show addP l x = l ++ [x] from if_neg hm]
    exact ⟨rfl, idx_new hm⟩
  unfold plV
  have hrunA := fun (y : Pl) (hy : y ∈ l) W => run_eql_place W y x (hw y hy) hx
  have HRUN := Lib.hid hrunA
  have hng := placeNoGuard
  clear hrunA hw hx
  go_enter Tryd.func46, Tryd.ntmps46
  go_upto_region 1 with (fail)
  have hB1 := bel_box (w := w) (.cells #[.int .i64 x.st, .int .i64 x.inn, .int .i64 x.pr] 48)
  have hxb := heap_alloc_new w (.cells #[.int .i64 x.st, .int .i64 x.inn, .int .i64 x.pr] 48)
  have ho1 : OP (w.alloc (.cells #[.int .i64 x.st, .int .i64 x.inn, .int .i64 x.pr] 48)) base (.slice ao l.length cap) l := World.ownsRow.alloc ho _
  generalize w.alloc (.cells #[.int .i64 x.st, .int .i64 x.inn, .int .i64 x.pr] 48) = w1 at *
  have x0 := cell_of_row _ _ 0 _ _ _ hxb
  have x1 := cell_of_row _ _ 1 _ _ _ hxb
  have x2 := cell_of_row _ _ 2 _ _ _ hxb
  have hb1 : base ≤ w1.heap.size := Nat.le_trans hb hB1.size
  have HB1 := Lib.hid hB1
  clear hB1 hxb ho
  go_wp2
  go_loopg [6] l.length (fun gh i wr => ∃ (k m : Nat), gh = l.length - k ∧ i = .int .i64 k ∧ k ≤ l.length ∧ Hid (∀ y ∈ l.take k, y ≠ x) ∧ w1.drewN m = wr)
  case atStart => exact ⟨0, 0, by omega, rfl, by omega, (by intro y hy; simp at hy), rfl⟩
  case round =>
    obtain ⟨k, m, rfl, rfl, hk, HE, rfl⟩ := hrel
    by_cases hlt : k < l.length
    · obtain ⟨g, rfl⟩ := ho1.some (by omega)
      obtain ⟨c0, c1, c2⟩ := ho1.at' rfl k hlt
      have hrun := fun W => HRUN.out l[k] (List.getElem_mem hlt) W
      unfold plV at hrun
      have HFk := HFND.out k hlt
      have HSN : Hid (l[k] ≠ x → ∀ y ∈ l.take (k + 1), y ≠ x) := fun h y hy => by
        rw [List.take_succ_eq_append_getElem hlt] at hy
        rcases List.mem_append.1 hy with hy | hy
        · exact HE.out y hy
        · rw [List.mem_singleton.1 hy]; exact h
      have HFK := Lib.hid (fun e => HFk e HE.out)
      clear HFk
      generalize l[k] = y at *
      by_cases hxy : y = x
      · have HXY := Lib.hid hxy
        have e1 : decide (y = x) = true := decide_eq_true hxy
        simp only [e1] at hrun
        clear hxy e1
        go_wp2
        refine wp_region_quiet_lit (by kernel_rfl) (by kernel_rfl) ?_
        ((repeat (go_big_quiet_step (fail))); refine wpQuiet_nil ?_; rintro _ ⟨nq, rfl⟩)
        go_wp2
        go_ret2
        obtain ⟨q1, q2⟩ := HFK.out HXY.out
        refine ⟨.slice (some ⟨g, 0, none⟩) l.length cap, by rw [q2]; rfl, ?_, grown_below (HB1.out.trans ((below_draws _ _ _).trans (below_draws _ _ _))) _, fun g hg => .inl hg⟩
        rw [q1]
        exact ho1
      · have HXY := Lib.hid hxy
        have e1 : decide (y = x) = false := decide_eq_false hxy
        simp only [e1] at hrun
        clear hxy e1
        go_wp2
        refine wp_region_quiet_lit (by kernel_rfl) (by kernel_rfl) ?_
        ((repeat (go_big_quiet_step (fail))); refine wpQuiet_nil ?_; rintro _ ⟨nq, rfl⟩)
        go_wp2
        go_roundg (l.length - (k + 1))
        case rel => exact ⟨k + 1, _, rfl, by go_num, by omega, HSN.out HXY.out, rfl⟩
        case measure => omega
    · obtain rfl : k = l.length := by omega
      have HN : Hid (∀ y ∈ l, y ≠ x) := by
        have := HE.out
        rwa [List.take_length] at this
      have ho2 : OP (w1.drewN m) base (.slice ao l.length cap) l := ho1
      have hb2 : base ≤ (w1.drewN m).heap.size := hb1
      go_wp2_with (at_builtin; refine app_place rfl _ _ x rfl base _ _ ho2 rfl _ rfl rfl (by omega) hb2 ?_; intro v' w' hown' hg hmv; obtain ⟨ao', cap', hv'⟩ := hown'.slice; rw [List.length_append, List.length_singleton] at hv'; subst hv'; have HST := Lib.hid hown'; have HG := Lib.hid hg; have HM := Lib.hid hmv; clear hown' hg hmv)
      go_ret2
      obtain ⟨q1, q2⟩ := HNEW.out HN.out
      refine ⟨.slice ao' (l.length + 1) cap', by rw [q2]; rfl, ?_, grown_trans (grown_below (HB1.out.trans (below_draws _ _ _)) _) HG.out, fun g hg => (HM.out g hg).imp id (fun h => Nat.le_trans (show w.heap.size ≤ (w1.drewN m).heap.size from HB1.out.size) h)⟩
      rw [q1]
      exact HST.out

end Go.Proofs.YtjadeffdcbchnaaDoor
