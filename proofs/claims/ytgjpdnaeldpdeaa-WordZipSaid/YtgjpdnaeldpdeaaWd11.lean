/- What slices.Clone computes. -/
import Derived.Test.YtgjpdnaeldpdeaaWd10
namespace Go.Proofs.Ytgjpdnaeldpdeaa
open Go.RowKit

theorem app_ints {ops : Array Oper} {rest : List Oper} {o : Oper} {a : Act} {Q : Exit → Act → World → Prop} {w : World} (hgd : o.guard = none) (s x : Operand)
    (ho : o.op = .call { callee := .builtin .append, args := #[s, x], argTypes := #[22, 22] })
    (base : Nat) (v v2 : Value) (l l2 : List Int) (hown : OI w base v l) (hs : a.eval s = v) (hsrc : IsInts w v2 l2) (hx : a.eval x = v2)
    (hn : l.length + l2.length ≤ 17592186043904) (hbase : base ≤ w.heap.size)
    (h : ∀ v' w', OI w' base v' (l ++ l2) → w.grownBy w' v.ownBlock → Moved w v v' → wpList Try.prog ops Q rest (a.put o.dst v') w') :
    wpList Try.prog ops Q (o :: rest) a w := by
  obtain ⟨⟨ao, cap, b, off, rfl, hsrc⟩, -⟩ := hsrc
  refine wpList_appA hgd s x _ _ 8 _ ho Try.underlying22 info_int rfl base v l.length _ hs hown ao cap b off l2.length (ivF l2) hx hsrc (fun _ => rfl) (by omega) (by decide) hbase fun v' w' h1 h2 h3 => h v' w' ?_ h2 h3
  have e : (List.range l2.length).map (ivF l2) = l2.map (Value.int .i64) := by
    apply List.ext_getElem (by simp)
    intro j h1 h2
    have : j < l2.length := by simpa using h1
    simp [ivF, this]
  rw [e] at h1
  unfold OI
  simpa using h1

theorem OI_empty0 (w : World) : OI (w.alloc (.cells #[] 3)) w.heap.size (.slice (some ⟨w.heap.size, 0, none⟩) 0 0) [] :=
  World.ownsRow_made w #[] 0 (Nat.le_refl _) (by simp [maxLen]) rfl

theorem nil_eq (w : World) : Sem.run Try.prog (binOp BinOp.eql 22 (.slice none 0 0) (.slice none 0 0)) w = .ok (.bool true) w := by rfl
theorem some_eq (w : World) (ad : Addr) (n c : Nat) : Sem.run Try.prog (binOp BinOp.eql 22 (.slice (some ad) n c) (.slice none 0 0)) w = .ok (.bool false) w := by rfl

set_option maxHeartbeats 2000000 in
theorem Clone_c (w : World) (vl : Value) (l : List Int) (hl : IsInts w vl l) (hlen : l.length ≤ 100000) :
    Calls Try.prog 50 #[vl] w (NewN l w) := by
  have hb0 : Below w.heap.size w (w.alloc (.cells #[] 3)) := bel_box _
  have hl2 := hl.below hb0
  have HR := Lib.hid hl.2
  have HO := Lib.hid (OI_empty0 w)
  obtain ⟨⟨ao, cap, b, off, rfl, hl⟩, -⟩ := hl
  cases ao with
  | none =>
    have hc := hl.nc rfl
    have h0 : l.length = 0 := by have := hl.lc; omega
    have hnil : l = [] := List.eq_nil_of_length_eq_zero h0
    subst hnil
    subst hc
    clear hl hl2 HO
    have hE := nil_eq w
    go_enter Try.func50, Try.ntmps50
    go_wp2
    go_ret
    exact ⟨_, rfl, ⟨⟨none, 0, 0, 0, rfl, ⟨Nat.le_refl _, by simp [maxLen], by simp [maxN], fun _ => rfl, fun h => absurd h (by simp), fun j hj => absurd hj (by simp)⟩⟩, by simp⟩, Below.refl _ _⟩
  | some ad =>
    have HL := Lib.hid hl2
    clear hl2
    have hE := some_eq w ad l.length cap
    go_enter Try.func50, Try.ntmps50
    go_wp2_with (at_builtin; refine app_ints rfl _ _ rfl w.heap.size _ _ [] l HO.out rfl HL.out rfl (by simp; omega) (by simp) ?_; intro v' w' hown' hg hmv; have HO2 := Lib.hid hown'; clear hown')
    go_ret
    exact ⟨_, rfl, HO2.out.is (by simp; unfold maxN; omega) HR.out, hb0.grown hg hb0.size HO.out.ge⟩

end Go.Proofs.Ytgjpdnaeldpdeaa
