/- The law StrategyParts: its walk. -/
import Derived.Test.YtkbiopjinegckaaSt26
import Derived.Test.YtkbiopjinegckaaSt32
import Derived.Test.YtkbiopjinegckaaSt14
namespace Go.Proofs.Ytkbiopjinegckaa
open Go.RowKit

/-- Three rows in new memory. -/
structure Th (W : World) (B : Nat) (x y z : Value) (X Y Z : List Bool) : Prop where
  rx : OB W B x X
  ry : OB W B y Y
  rz : OB W B z Z
  xy : Apart x y
  xz : Apart x z
  yz : Apart y z
section
variable {W W' : World} {B : Nat} {x y z v : Value} {X Y Z L : List Bool}
theorem Th.px (h : Th W B x y z X Y Z) (ho : OB W' B v L) (hg : W.grownBy W' x.ownBlock) (hm : Moved W x v) : Th W' B v y z L Y Z :=
  ⟨ho, h.ry.grownA hg h.xy.symm, h.rz.grownA hg h.xz.symm, (h.xy.symm.moved hm h.ry.lt').symm, (h.xz.symm.moved hm h.rz.lt').symm, h.yz⟩
theorem Th.py (h : Th W B x y z X Y Z) (ho : OB W' B v L) (hg : W.grownBy W' y.ownBlock) (hm : Moved W y v) : Th W' B x v z X L Z :=
  ⟨h.rx.grownA hg h.xy, ho, h.rz.grownA hg h.yz.symm, h.xy.moved hm h.rx.lt', h.xz, (h.yz.symm.moved hm h.rz.lt').symm⟩
theorem Th.pz (h : Th W B x y z X Y Z) (ho : OB W' B v L) (hg : W.grownBy W' z.ownBlock) (hm : Moved W z v) : Th W' B x y v X Y L :=
  ⟨h.rx.grownA hg h.xz, h.ry.grownA hg h.yz, ho, h.xy, h.xz.moved hm h.rx.lt', h.yz.moved hm h.ry.lt'⟩
end
theorem ob_made (w : World) (B n : Nat) (hB : B ≤ w.heap.size) (h : n = w.heap.size) : OB (w.alloc (.cells #[] 4)) B (.slice (some ⟨n, 0, none⟩) 0 0) [] := h ▸ World.ownsRow_made w #[] 0 hB (by simp [maxLen]) rfl
/-- Memory has grown. -/
def Since (w W : World) : Prop := Below w.heap.size w W
theorem OB.slc {w : World} {base : Nat} {v : Value} {l : List Bool} (h : OB w base v l) : ∃ ao cap, v = .slice ao l.length cap := by
  rcases h.2 with ⟨hv, h0⟩ | ⟨g, cap, cur, hv, hb, hg, _⟩
  · exact ⟨none, 0, by rw [hv, h0]⟩
  · exact ⟨_, cap, hv⟩
theorem last_get (l : List Bool) (b : Bool) (k : Nat) (h : l.length = k) : (l ++ [b]).getD k false = b := by subst h; simp [List.getD]

def RPa (_g : Gm) (p : Int) (LX _LY _LZ : List Int) (vx _vy _vz vT : Value) (a0 a1 a2 : Option Addr) (n0 n1 n2 c0 c1 c2 : Nat) (ox _oy : Bool) (ix : Nat) (u : Value) (W : World) : Prop :=
  match ix with
  | 0 => u = .agg #[.slice a0 n0 c0, .slice a1 n1 c1, .slice a2 n2 c2]
  | 1 => u = .int .i64 p
  | 2 => u = vx
  | 3 => u = vx
  | 4 => u = vT
  | 5 => IsInts W u LX
  | 6 => u = .bool ox
  | 7 => u = .bool ox
  | _ => True
theorem RPa.below {ix : Nat} {u : Value} {W W' : World} {g : Gm} {p : Int} {LX LY LZ : List Int} {vx vy vz vT : Value} {a0 a1 a2 : Option Addr} {n0 n1 n2 c0 c1 c2 : Nat} {ox oy : Bool} (h : RPa g p LX LY LZ vx vy vz vT a0 a1 a2 n0 n1 n2 c0 c1 c2 ox oy ix u W) (hb : Below W.heap.size W W') : RPa g p LX LY LZ vx vy vz vT a0 a1 a2 n0 n1 n2 c0 c1 c2 ox oy ix u W' := by
  unfold RPa at *
  split at h <;> first | exact h | trivial | exact IsInts.below h hb
def RPb (_g : Gm) (p : Int) (_LX LY _LZ : List Int) (_vx vy _vz vT : Value) (a0 a1 a2 : Option Addr) (n0 n1 n2 c0 c1 c2 : Nat) (_ox oy : Bool) (ix : Nat) (u : Value) (W : World) : Prop :=
  match ix with
  | 0 => u = .agg #[.slice a0 n0 c0, .slice a1 n1 c1, .slice a2 n2 c2]
  | 1 => u = .int .i64 p
  | 2 => u = vy
  | 3 => u = vy
  | 4 => u = vT
  | 5 => IsInts W u LY
  | 6 => u = .bool oy
  | 7 => u = .bool oy
  | _ => True
theorem RPb.below {ix : Nat} {u : Value} {W W' : World} {g : Gm} {p : Int} {LX LY LZ : List Int} {vx vy vz vT : Value} {a0 a1 a2 : Option Addr} {n0 n1 n2 c0 c1 c2 : Nat} {ox oy : Bool} (h : RPb g p LX LY LZ vx vy vz vT a0 a1 a2 n0 n1 n2 c0 c1 c2 ox oy ix u W) (hb : Below W.heap.size W W') : RPb g p LX LY LZ vx vy vz vT a0 a1 a2 n0 n1 n2 c0 c1 c2 ox oy ix u W' := by
  unfold RPb at *
  split at h <;> first | exact h | trivial | exact IsInts.below h hb
def RPctt (_g : Gm) (p : Int) (LX LY _LZ : List Int) (vx vy _vz vT : Value) (a0 a1 a2 : Option Addr) (n0 n1 n2 c0 c1 c2 : Nat) (_ox _oy : Bool) (ix : Nat) (u : Value) (W : World) : Prop :=
  match ix with
  | 0 => u = .bool true
  | 1 => u = .bool true
  | 2 => u = .agg #[.slice a0 n0 c0, .slice a1 n1 c1, .slice a2 n2 c2]
  | 3 => u = .int .i64 p
  | 4 => u = vx
  | 5 => u = vx
  | 6 => u = vT
  | 7 => IsInts W u LX
  | 8 => u = .bool true
  | 9 => u = .bool false
  | 10 => u = .bool false
  | 11 => u = .bool false
  | 12 => u = .bool true
  | 13 => u = .bool true
  | 14 => u = .agg #[.slice a0 n0 c0, .slice a1 n1 c1, .slice a2 n2 c2]
  | 15 => u = .int .i64 p
  | 16 => u = vy
  | 17 => u = vy
  | 18 => u = vT
  | 19 => IsInts W u LY
  | 20 => u = .bool true
  | 21 => u = .bool false
  | 22 => u = .bool false
  | 23 => u = .bool false
  | _ => True
theorem RPctt.below {ix : Nat} {u : Value} {W W' : World} {g : Gm} {p : Int} {LX LY LZ : List Int} {vx vy vz vT : Value} {a0 a1 a2 : Option Addr} {n0 n1 n2 c0 c1 c2 : Nat} {ox oy : Bool} (h : RPctt g p LX LY LZ vx vy vz vT a0 a1 a2 n0 n1 n2 c0 c1 c2 ox oy ix u W) (hb : Below W.heap.size W W') : RPctt g p LX LY LZ vx vy vz vT a0 a1 a2 n0 n1 n2 c0 c1 c2 ox oy ix u W' := by
  unfold RPctt at *
  split at h <;> first | exact h | trivial | exact IsInts.below h hb
def RPdtt (_g : Gm) (p : Int) (_LX _LY LZ : List Int) (_vx _vy vz vT : Value) (a0 a1 a2 : Option Addr) (n0 n1 n2 c0 c1 c2 : Nat) (_ox _oy : Bool) (ix : Nat) (u : Value) (W : World) : Prop :=
  match ix with
  | 0 => u = .bool true
  | 1 => u = .bool true
  | 2 => u = .bool true
  | 3 => u = .bool false
  | 4 => u = .bool false
  | 5 => u = .bool true
  | 6 => u = .bool false
  | 7 => u = .bool false
  | 8 => u = .bool false
  | 9 => u = .agg #[.slice a0 n0 c0, .slice a1 n1 c1, .slice a2 n2 c2]
  | 10 => u = .int .i64 p
  | 11 => u = vz
  | 12 => u = vz
  | 13 => u = vT
  | 14 => IsInts W u LZ
  | 15 => u = .bool true
  | 16 => u = .bool true
  | 17 => u = .bool true
  | 18 => u = .bool true
  | _ => True
theorem RPdtt.below {ix : Nat} {u : Value} {W W' : World} {g : Gm} {p : Int} {LX LY LZ : List Int} {vx vy vz vT : Value} {a0 a1 a2 : Option Addr} {n0 n1 n2 c0 c1 c2 : Nat} {ox oy : Bool} (h : RPdtt g p LX LY LZ vx vy vz vT a0 a1 a2 n0 n1 n2 c0 c1 c2 ox oy ix u W) (hb : Below W.heap.size W W') : RPdtt g p LX LY LZ vx vy vz vT a0 a1 a2 n0 n1 n2 c0 c1 c2 ox oy ix u W' := by
  unfold RPdtt at *
  split at h <;> first | exact h | trivial | exact IsInts.below h hb
def RPctf (_g : Gm) (p : Int) (LX _LY _LZ : List Int) (vx _vy _vz vT : Value) (a0 a1 a2 : Option Addr) (n0 n1 n2 c0 c1 c2 : Nat) (_ox _oy : Bool) (ix : Nat) (u : Value) (W : World) : Prop :=
  match ix with
  | 0 => u = .bool true
  | 1 => u = .bool true
  | 2 => u = .agg #[.slice a0 n0 c0, .slice a1 n1 c1, .slice a2 n2 c2]
  | 3 => u = .int .i64 p
  | 4 => u = vx
  | 5 => u = vx
  | 6 => u = vT
  | 7 => IsInts W u LX
  | 8 => u = .bool true
  | 9 => u = .bool false
  | 10 => u = .bool false
  | 11 => u = .bool false
  | 12 => u = .bool false
  | 13 => u = .bool false
  | 14 => u = undef
  | 15 => u = undef
  | 16 => u = undef
  | 17 => u = undef
  | 18 => u = undef
  | 19 => u = undef
  | 20 => u = undef
  | 21 => u = undef
  | 22 => u = .bool false
  | 23 => u = .bool false
  | _ => True
theorem RPctf.below {ix : Nat} {u : Value} {W W' : World} {g : Gm} {p : Int} {LX LY LZ : List Int} {vx vy vz vT : Value} {a0 a1 a2 : Option Addr} {n0 n1 n2 c0 c1 c2 : Nat} {ox oy : Bool} (h : RPctf g p LX LY LZ vx vy vz vT a0 a1 a2 n0 n1 n2 c0 c1 c2 ox oy ix u W) (hb : Below W.heap.size W W') : RPctf g p LX LY LZ vx vy vz vT a0 a1 a2 n0 n1 n2 c0 c1 c2 ox oy ix u W' := by
  unfold RPctf at *
  split at h <;> first | exact h | trivial | exact IsInts.below h hb
def RPdtf (_g : Gm) (_p : Int) (_LX _LY _LZ : List Int) (_vx _vy _vz _vT : Value) (_a0 _a1 _a2 : Option Addr) (_n0 _n1 _n2 _c0 _c1 _c2 : Nat) (_ox _oy : Bool) (ix : Nat) (u : Value) (_ : World) : Prop :=
  match ix with
  | 0 => u = .bool true
  | 1 => u = .bool true
  | 2 => u = .bool true
  | 3 => u = .bool false
  | 4 => u = .bool false
  | 5 => u = .bool false
  | 6 => u = .bool true
  | 7 => u = .bool true
  | 8 => u = .bool true
  | 9 => u = undef
  | 10 => u = undef
  | 11 => u = undef
  | 12 => u = undef
  | 13 => u = undef
  | 14 => u = undef
  | 15 => u = undef
  | 16 => u = .bool true
  | 17 => u = .bool true
  | 18 => u = .bool true
  | _ => True
theorem RPdtf.below {ix : Nat} {u : Value} {W W' : World} {g : Gm} {p : Int} {LX LY LZ : List Int} {vx vy vz vT : Value} {a0 a1 a2 : Option Addr} {n0 n1 n2 c0 c1 c2 : Nat} {ox oy : Bool} (h : RPdtf g p LX LY LZ vx vy vz vT a0 a1 a2 n0 n1 n2 c0 c1 c2 ox oy ix u W) (_ : Below W.heap.size W W') : RPdtf g p LX LY LZ vx vy vz vT a0 a1 a2 n0 n1 n2 c0 c1 c2 ox oy ix u W' := by
  unfold RPdtf at *
  split at h <;> first | exact h | trivial
def RPcft (_g : Gm) (p : Int) (_LX LY _LZ : List Int) (_vx vy _vz vT : Value) (a0 a1 a2 : Option Addr) (n0 n1 n2 c0 c1 c2 : Nat) (_ox _oy : Bool) (ix : Nat) (u : Value) (W : World) : Prop :=
  match ix with
  | 0 => u = .bool false
  | 1 => u = .bool false
  | 2 => u = undef
  | 3 => u = undef
  | 4 => u = undef
  | 5 => u = undef
  | 6 => u = undef
  | 7 => u = undef
  | 8 => u = undef
  | 9 => u = undef
  | 10 => u = .bool false
  | 11 => u = .bool false
  | 12 => u = .bool true
  | 13 => u = .bool true
  | 14 => u = .agg #[.slice a0 n0 c0, .slice a1 n1 c1, .slice a2 n2 c2]
  | 15 => u = .int .i64 p
  | 16 => u = vy
  | 17 => u = vy
  | 18 => u = vT
  | 19 => IsInts W u LY
  | 20 => u = .bool true
  | 21 => u = .bool false
  | 22 => u = .bool false
  | 23 => u = .bool false
  | _ => True
theorem RPcft.below {ix : Nat} {u : Value} {W W' : World} {g : Gm} {p : Int} {LX LY LZ : List Int} {vx vy vz vT : Value} {a0 a1 a2 : Option Addr} {n0 n1 n2 c0 c1 c2 : Nat} {ox oy : Bool} (h : RPcft g p LX LY LZ vx vy vz vT a0 a1 a2 n0 n1 n2 c0 c1 c2 ox oy ix u W) (hb : Below W.heap.size W W') : RPcft g p LX LY LZ vx vy vz vT a0 a1 a2 n0 n1 n2 c0 c1 c2 ox oy ix u W' := by
  unfold RPcft at *
  split at h <;> first | exact h | trivial | exact IsInts.below h hb
def RPdft (_g : Gm) (_p : Int) (_LX _LY _LZ : List Int) (_vx _vy _vz _vT : Value) (_a0 _a1 _a2 : Option Addr) (_n0 _n1 _n2 _c0 _c1 _c2 : Nat) (_ox _oy : Bool) (ix : Nat) (u : Value) (_ : World) : Prop :=
  match ix with
  | 0 => u = .bool true
  | 1 => u = .bool true
  | 2 => u = .bool false
  | 3 => u = .bool true
  | 4 => u = .bool true
  | 5 => u = undef
  | 6 => u = undef
  | 7 => u = .bool true
  | 8 => u = .bool true
  | 9 => u = undef
  | 10 => u = undef
  | 11 => u = undef
  | 12 => u = undef
  | 13 => u = undef
  | 14 => u = undef
  | 15 => u = undef
  | 16 => u = .bool true
  | 17 => u = .bool true
  | 18 => u = .bool true
  | _ => True
theorem RPdft.below {ix : Nat} {u : Value} {W W' : World} {g : Gm} {p : Int} {LX LY LZ : List Int} {vx vy vz vT : Value} {a0 a1 a2 : Option Addr} {n0 n1 n2 c0 c1 c2 : Nat} {ox oy : Bool} (h : RPdft g p LX LY LZ vx vy vz vT a0 a1 a2 n0 n1 n2 c0 c1 c2 ox oy ix u W) (_ : Below W.heap.size W W') : RPdft g p LX LY LZ vx vy vz vT a0 a1 a2 n0 n1 n2 c0 c1 c2 ox oy ix u W' := by
  unfold RPdft at *
  split at h <;> first | exact h | trivial
def RPcff (_g : Gm) (_p : Int) (_LX _LY _LZ : List Int) (_vx _vy _vz _vT : Value) (_a0 _a1 _a2 : Option Addr) (_n0 _n1 _n2 _c0 _c1 _c2 : Nat) (_ox _oy : Bool) (ix : Nat) (u : Value) (_ : World) : Prop :=
  match ix with
  | 0 => u = .bool false
  | 1 => u = .bool false
  | 2 => u = undef
  | 3 => u = undef
  | 4 => u = undef
  | 5 => u = undef
  | 6 => u = undef
  | 7 => u = undef
  | 8 => u = undef
  | 9 => u = undef
  | 10 => u = .bool false
  | 11 => u = .bool false
  | 12 => u = .bool false
  | 13 => u = .bool false
  | 14 => u = undef
  | 15 => u = undef
  | 16 => u = undef
  | 17 => u = undef
  | 18 => u = undef
  | 19 => u = undef
  | 20 => u = undef
  | 21 => u = undef
  | 22 => u = .bool false
  | 23 => u = .bool false
  | _ => True
theorem RPcff.below {ix : Nat} {u : Value} {W W' : World} {g : Gm} {p : Int} {LX LY LZ : List Int} {vx vy vz vT : Value} {a0 a1 a2 : Option Addr} {n0 n1 n2 c0 c1 c2 : Nat} {ox oy : Bool} (h : RPcff g p LX LY LZ vx vy vz vT a0 a1 a2 n0 n1 n2 c0 c1 c2 ox oy ix u W) (_ : Below W.heap.size W W') : RPcff g p LX LY LZ vx vy vz vT a0 a1 a2 n0 n1 n2 c0 c1 c2 ox oy ix u W' := by
  unfold RPcff at *
  split at h <;> first | exact h | trivial
def RPdff (_g : Gm) (_p : Int) (_LX _LY _LZ : List Int) (_vx _vy _vz _vT : Value) (_a0 _a1 _a2 : Option Addr) (_n0 _n1 _n2 _c0 _c1 _c2 : Nat) (_ox _oy : Bool) (ix : Nat) (u : Value) (_ : World) : Prop :=
  match ix with
  | 0 => u = .bool true
  | 1 => u = .bool true
  | 2 => u = .bool false
  | 3 => u = .bool true
  | 4 => u = .bool true
  | 5 => u = undef
  | 6 => u = undef
  | 7 => u = .bool true
  | 8 => u = .bool true
  | 9 => u = undef
  | 10 => u = undef
  | 11 => u = undef
  | 12 => u = undef
  | 13 => u = undef
  | 14 => u = undef
  | 15 => u = undef
  | 16 => u = .bool true
  | 17 => u = .bool true
  | 18 => u = .bool true
  | _ => True
theorem RPdff.below {ix : Nat} {u : Value} {W W' : World} {g : Gm} {p : Int} {LX LY LZ : List Int} {vx vy vz vT : Value} {a0 a1 a2 : Option Addr} {n0 n1 n2 c0 c1 c2 : Nat} {ox oy : Bool} (h : RPdff g p LX LY LZ vx vy vz vT a0 a1 a2 n0 n1 n2 c0 c1 c2 ox oy ix u W) (_ : Below W.heap.size W W') : RPdff g p LX LY LZ vx vy vz vT a0 a1 a2 n0 n1 n2 c0 c1 c2 ox oy ix u W' := by
  unfold RPdff at *
  split at h <;> first | exact h | trivial

set_option maxRecDepth 100000 in
set_option maxHeartbeats 16000000 in
theorem Parts_walk (w : World) (vg vS vT vA vB : Value) (g : Gm) (sec : Bool) (set : List Bool) (s : List Int) (a b : List Bool) (hg : IsGame w vg g) (hs : IsBools w vS set) (ht : IsInts w vT s) (hA : IsBools w vA a) (hB' : IsBools w vB b) :
    Calls Try.prog 7 #[vg, .bool sec, vS, vT, vA, vB] w (Calm (.bool true) w) := by
  have hmx : Try.prog.follows .mixedOrders = true := by kernel_rfl
  obtain ⟨a0, c0, a1, c1, a2, c2, rfl⟩ := hg.shape
  obtain ⟨aS, cS, rfl⟩ := hs.shape
  obtain ⟨aA, cA, rfl⟩ := hA.shape
  obtain ⟨aB, cB, rfl⟩ := hB'.shape
  generalize hn0 : g.owner.length = n0 at *
  generalize hn1 : g.prio.length = n1 at *
  generalize hn2 : g.succ.length = n2 at *
  generalize hn : set.length = n at *
  generalize hla : a.length = la at *
  generalize hlb : b.length = lb at *
  go_enter Try.func7, Try.ntmps7
  go_upto_region 1 with (fail)
  obtain ⟨hx, hb, hB⟩ := box_new (w0 := w) (Below.refl _ _) (Nat.le_refl _) #[.slice a0 n0 c0, .slice a1 n1 c1, .slice a2 n2 c2] 25
  replace hg := hg.below hb
  replace hs := hs.below hb
  replace ht := ht.below hb
  replace hA := hA.below hb
  replace hB' := hB'.below hb
  generalize w.alloc (.cells #[.slice a0 n0 c0, .slice a1 n1 c1, .slice a2 n2 c2] 25) = w1 at *
  have HE : Hid (∀ W, Below w1.heap.size w1 W → Calm (.bool true) w (.returned (.bool true)) W) := fun W h => ⟨rfl, hB.trans (h.mono hB.size)⟩
  clear hb hB
  generalize w.heap.size = zg at *
  go_wp2_with fail
  refine (head_c _).mono ?_
  rintro e w2 ⟨rfl, hb⟩
  replace hx := (hb.block _ (Array.getElem?_eq_some_iff.1 hx).1).trans hx
  replace hg := hg.below hb
  replace hs := hs.below hb
  replace ht := ht.below hb
  replace hA := hA.below hb
  replace hB' := hB'.below hb
  go_wp2_with fail
  refine (player_c _ sec).mono ?_
  rintro e w3 ⟨rfl, hb3⟩
  replace hx := (hb3.block _ (Array.getElem?_eq_some_iff.1 hx).1).trans hx
  replace hg := hg.below hb3
  replace hs := hs.below hb3
  replace ht := ht.below hb3
  replace hA := hA.below hb3
  replace hB' := hB'.below hb3
  replace hb := hb.trans (hb3.mono hb.size)
  clear hb3
  generalize plI sec = p
  have k0 := cell_of_row _ _ 0 _ _ _ hx
  have k1 := cell_of_row _ _ 1 _ _ _ hx
  have k2 := cell_of_row _ _ 2 _ _ _ hx
  go_wp2_with fail
  refine (right_c _ _ _ _ g set s hg hs ht).mono ?_
  rintro e w4 ⟨rfl, hb3⟩
  replace hx := (hb3.block _ (Array.getElem?_eq_some_iff.1 hx).1).trans hx
  replace hg := hg.below hb3
  replace hs := hs.below hb3
  replace ht := ht.below hb3
  replace hA := hA.below hb3
  replace hB' := hB'.below hb3
  replace hb := hb.trans (hb3.mono hb.size)
  clear k0 k1 k2 hb3
  cases hr : rightB g set s
  · go_wp2_with fail
    go_ret
    exact HE.out _ hb
  cases h0 : ((la : Int) != (n : Int))
  case true =>
    go_wp2_with fail
    go_ret
    exact HE.out _ hb
  cases h1 : ((lb : Int) != (n : Int))
  case true =>
    go_wp2_with fail
    go_ret
    exact HE.out _ hb
  have k0 := cell_of_row _ _ 0 _ _ _ hx
  have k1 := cell_of_row _ _ 1 _ _ _ hx
  have k2 := cell_of_row _ _ 2 _ _ _ hx
  go_wp2_with fail
  refine (Wins_c _ _ _ _ g p set s hg hs ht).mono ?_
  rintro e w5 ⟨rfl, hb3⟩
  replace hx := (hb3.block _ (Array.getElem?_eq_some_iff.1 hx).1).trans hx
  replace hg := hg.below hb3
  replace hs := hs.below hb3
  replace ht := ht.below hb3
  replace hA := hA.below hb3
  replace hB' := hB'.below hb3
  replace hb := hb.trans (hb3.mono hb.size)
  clear k0 k1 k2 hb3
  cases hw : winB g p set s
  · go_wp2_with fail
    go_ret
    exact HE.out _ hb
  simp only [rightB, Bool.and_eq_true, decide_eq_true_eq] at hr
  obtain ⟨⟨⟨hsm, hv⟩, hl1⟩, hl2⟩ := hr
  obtain ⟨ln0, ln1, ln2⟩ := valid_lens hv
  have hn3 : n ≤ 3000 := by omega
  have hs3 : s.length ≤ 3000 := by omega
  have HS3 := Lib.hid hs3
  have HPL := Lib.hid (parts_plain (a := a) (b := b) hw hn.symm)
  have HPY := Lib.hid (parts_plain (a := b) (b := b) hw hn.symm).1
  have ela : la = n := by have := h0; simp at this; omega
  have elb : lb = n := by have := h1; simp at this; omega
  rw [ela] at hA ⊢
  rw [elb] at hB' ⊢
  clear hsm hv hl1 hl2 ln0 ln1 ln2 hw h0 h1 hs3 ela elb hla hlb hn hn0 hn1 hn2
  go_upto_region 8 with (fail)
  obtain ⟨B, hBe⟩ : ∃ B, B = w5.heap.size := ⟨_, rfl⟩
  have HTh : Hid (Th (((w5.alloc (.cells #[] 4)).alloc (.cells #[] 4)).alloc (.cells #[] 4)) B (.slice (some ⟨w5.heap.size, 0, none⟩) 0 0) (.slice (some ⟨w5.heap.size + 1, 0, none⟩) 0 0) (.slice (some ⟨w5.heap.size + 1 + 1, 0, none⟩) 0 0) [] [] []) := by
    have q1 := ob_made w5 B w5.heap.size (by omega) rfl
    have q2 := ob_made (w5.alloc (.cells #[] 4)) B (w5.heap.size + 1) (by simp; omega) (by simp)
    have q3 := ob_made ((w5.alloc (.cells #[] 4)).alloc (.cells #[] 4)) B (w5.heap.size + 1 + 1) (by simp; omega) (by simp)
    exact ⟨(q1.below (bel_box _)).below (bel_box _), q2.below (bel_box _), q3, fun i h1 h2 => by simp only [Value.ownBlock, Option.some.injEq] at h1 h2; omega, fun i h1 h2 => by simp only [Value.ownBlock, Option.some.injEq] at h1 h2; omega, fun i h1 h2 => by simp only [Value.ownBlock, Option.some.injEq] at h1 h2; omega⟩
  have HB7 : Hid (Below B w5 (((w5.alloc (.cells #[] 4)).alloc (.cells #[] 4)).alloc (.cells #[] 4))) := hBe ▸ (by repeat (first | exact Below.refl _ _ | assumption | (refine belA ?_ _) | (refine belD ?_ _)))
  generalize ((w5.alloc (.cells #[] 4)).alloc (.cells #[] 4)).alloc (.cells #[] 4) = w7 at *
  have hzs7 : B ≤ w7.heap.size := by have := HB7.out.size; omega
  obtain ⟨bS, oS, hdS, mS, ddS⟩ := hs.data
  obtain ⟨bA, oA, hdA, mA, ddA⟩ := hA.data
  obtain ⟨bB, oB, hdB, mB, ddB⟩ := hB'.data
  have HDS : Hid (∀ W, Below B w5 W → ∀ j, j < n → W.cell? ⟨bS, oS + j, none⟩ = some (.bool (set.getD j false))) := fun W h j hj => cellB (hBe ▸ h) (ddS j hj)
  have HDA : Hid (∀ W, Below B w5 W → ∀ j, j < n → W.cell? ⟨bA, oA + j, none⟩ = some (.bool (a.getD j false))) := fun W h j hj => cellB (hBe ▸ h) (ddA j hj)
  have HDB : Hid (∀ W, Below B w5 W → ∀ j, j < n → W.cell? ⟨bB, oB + j, none⟩ = some (.bool (b.getD j false))) := fun W h j hj => cellB (hBe ▸ h) (ddB j hj)
  have HG5 := Lib.hid hg
  have HT5 := Lib.hid ht
  have HX5 := Lib.hid hx
  have HBT := Lib.hid hb
  have HBZ : Hid (∀ W, Below B w5 W → Since w5 W) := fun W h => by
    rw [hBe] at h; exact h
  clear hs hA hB' ddS ddA ddB hg ht hx hb
  generalize w5.heap.size + 1 + 1 = r2 at *
  generalize w5.heap.size + 1 = r1 at *
  generalize w5.heap.size = r0 at *
  clear hBe
  go_wp2_with fail
  go_loopg [15, 16, 17, 18] n (fun gh x y z i wr => ∃ k : Nat, gh = n - k ∧ i = .int .i64 k ∧ k ≤ n ∧ Hid (Th wr B x y z (mapK (fun i => set.getD i false && a.getD i false) k) (mapK (fun i => set.getD i false && b.getD i false) k) (mapK (fun i => set.getD i false && a.getD i false || set.getD i false && b.getD i false) k)) ∧ Below B w5 wr ∧ B ≤ wr.heap.size)
  case atStart => exact ⟨0, rfl, rfl, by omega, HTh, HB7.out, hzs7⟩
  case round =>
    obtain ⟨k, hgk, rfl, hk, HT, hB, hBs⟩ := hrel
    have HG := Lib.hid hgk
    have HB := Lib.hid hB
    clear hgk hB hzs7
    by_cases hlt : k < n
    · have hN : decide ((k : Int) < n) = true := decide_eq_true (by omega)
      obtain rfl := hdS (by omega)
      obtain rfl := hdA (by omega)
      obtain rfl := hdB (by omega)
      have HM1 := Lib.hid (mapK_succ (fun i => set.getD i false && a.getD i false) k)
      have HM2 := Lib.hid (mapK_succ (fun i => set.getD i false && b.getD i false) k)
      have HM3 := Lib.hid (mapK_succ (fun i => set.getD i false && a.getD i false || set.getD i false && b.getD i false) k)
      have hX1 := mapK_len (fun i => set.getD i false && a.getD i false) k
      have hX2 := mapK_len (fun i => set.getD i false && b.getD i false) k
      have hX3 := mapK_len (fun i => set.getD i false && a.getD i false || set.getD i false && b.getD i false) k
      generalize mapK (fun i => set.getD i false && a.getD i false) k = X at *
      generalize mapK (fun i => set.getD i false && b.getD i false) k = Y at *
      generalize mapK (fun i => set.getD i false && a.getD i false || set.getD i false && b.getD i false) k = Z at *
      cases qs : set.getD k false
      · have y0S := HDS.out _ HB.out k hlt
        rw [qs] at y0S
        go_upto_region 12 with (at_builtin; refine app_bool rfl _ _ _ rfl B _ _ HT.out.rx rfl _ (by simp) rfl (by omega) hBs ?_; intro v1 u1 hown hg hmv; obtain ⟨ao1, cap1, hv1⟩ := hown.slc; rw [List.length_append, List.length_singleton, hX1] at hv1; subst hv1; have HT1 := Lib.hid (HT.out.px hown hg hmv); have HB1 := Lib.hid (HB.out.grown hg hBs (fun g h => HT.out.rx.ge g h)); have hBs1 := hg.size; replace hBs1 := Nat.le_trans hBs hBs1; have y1S := HDS.out _ HB1.out k hlt; rw [qs] at y1S; clear y0S; clear hown hg hmv)
        go_upto_region 13 with (at_builtin; refine app_bool rfl _ _ _ rfl B _ _ HT1.out.ry rfl _ (by simp) rfl (by omega) hBs1 ?_; intro v2 u2 hown hg hmv; obtain ⟨ao2, cap2, hv2⟩ := hown.slc; rw [List.length_append, List.length_singleton, hX2] at hv2; subst hv2; have HT2 := Lib.hid (HT1.out.py hown hg hmv); have HB2 := Lib.hid (HB1.out.grown hg hBs1 (fun g h => HT1.out.ry.ge g h)); have hBs2 := hg.size; replace hBs2 := Nat.le_trans hBs1 hBs2; clear y1S; clear hown hg hmv)
        obtain ⟨bX, oX, hdX, -, ddX⟩ := (HT2.out.rx.is (by rw [List.length_append, List.length_singleton, hX1]; simp only [maxN]; omega)).data
        have yX := ddX k (by omega)
        rw [last_get _ _ _ hX1] at yX
        obtain rfl := hdX (by omega)
        clear ddX hdX
        obtain ⟨bY, oY, hdY, -, ddY⟩ := (HT2.out.ry.is (by rw [List.length_append, List.length_singleton, hX2]; simp only [maxN]; omega)).data
        have yY := ddY k (by omega)
        rw [last_get _ _ _ hX2] at yY
        obtain rfl := hdY (by omega)
        clear ddY hdY
        have hk1 : decide ((k : Int) < ((k + 1 : Nat) : Int)) = true := decide_eq_true (by omega)
        go_wp2_with (at_builtin; refine app_bool rfl _ _ _ rfl B _ _ HT2.out.rz rfl _ (by simp) rfl (by omega) hBs2 ?_; intro v3 u3 hown hg hmv; obtain ⟨ao3, cap3, hv3⟩ := hown.slc; rw [List.length_append, List.length_singleton, hX3] at hv3; subst hv3; have HT3 := Lib.hid (HT2.out.pz hown hg hmv); have HB3 := Lib.hid (HB2.out.grown hg hBs2 (fun g h => HT2.out.rz.ge g h)); have hBs3 := hg.size; replace hBs3 := Nat.le_trans hBs2 hBs3; clear yX yY; clear hown hg hmv)
        go_roundg (n - (k + 1))
        case measure => have := HG.out; omega
        case rel => exact ⟨k + 1, rfl, by go_num, by omega, (by show Th _ _ _ _ _ _ _ _; rw [HM1.out, HM2.out, HM3.out]; simp only [qs]; exact HT3.out), HB3.out, hBs3⟩
      · cases qa : a.getD k false
        · cases qb : b.getD k false
          · have y0S := HDS.out _ HB.out k hlt
            rw [qs] at y0S
            have y0A := HDA.out _ HB.out k hlt
            rw [qa] at y0A
            have y0B := HDB.out _ HB.out k hlt
            rw [qb] at y0B
            go_upto_region 12 with (at_builtin; refine app_bool rfl _ _ _ rfl B _ _ HT.out.rx rfl _ (by simp) rfl (by omega) hBs ?_; intro v1 u1 hown hg hmv; obtain ⟨ao1, cap1, hv1⟩ := hown.slc; rw [List.length_append, List.length_singleton, hX1] at hv1; subst hv1; have HT1 := Lib.hid (HT.out.px hown hg hmv); have HB1 := Lib.hid (HB.out.grown hg hBs (fun g h => HT.out.rx.ge g h)); have hBs1 := hg.size; replace hBs1 := Nat.le_trans hBs hBs1; have y1S := HDS.out _ HB1.out k hlt; rw [qs] at y1S; have y1A := HDA.out _ HB1.out k hlt; rw [qa] at y1A; have y1B := HDB.out _ HB1.out k hlt; rw [qb] at y1B; clear y0S y0A y0B; clear hown hg hmv)
            go_upto_region 13 with (at_builtin; refine app_bool rfl _ _ _ rfl B _ _ HT1.out.ry rfl _ (by simp) rfl (by omega) hBs1 ?_; intro v2 u2 hown hg hmv; obtain ⟨ao2, cap2, hv2⟩ := hown.slc; rw [List.length_append, List.length_singleton, hX2] at hv2; subst hv2; have HT2 := Lib.hid (HT1.out.py hown hg hmv); have HB2 := Lib.hid (HB1.out.grown hg hBs1 (fun g h => HT1.out.ry.ge g h)); have hBs2 := hg.size; replace hBs2 := Nat.le_trans hBs1 hBs2; clear y1S y1A y1B; clear hown hg hmv)
            obtain ⟨bX, oX, hdX, -, ddX⟩ := (HT2.out.rx.is (by rw [List.length_append, List.length_singleton, hX1]; simp only [maxN]; omega)).data
            have yX := ddX k (by omega)
            rw [last_get _ _ _ hX1] at yX
            obtain rfl := hdX (by omega)
            clear ddX hdX
            obtain ⟨bY, oY, hdY, -, ddY⟩ := (HT2.out.ry.is (by rw [List.length_append, List.length_singleton, hX2]; simp only [maxN]; omega)).data
            have yY := ddY k (by omega)
            rw [last_get _ _ _ hX2] at yY
            obtain rfl := hdY (by omega)
            clear ddY hdY
            have hk1 : decide ((k : Int) < ((k + 1 : Nat) : Int)) = true := decide_eq_true (by omega)
            go_wp2_with (at_builtin; refine app_bool rfl _ _ _ rfl B _ _ HT2.out.rz rfl _ (by simp) rfl (by omega) hBs2 ?_; intro v3 u3 hown hg hmv; obtain ⟨ao3, cap3, hv3⟩ := hown.slc; rw [List.length_append, List.length_singleton, hX3] at hv3; subst hv3; have HT3 := Lib.hid (HT2.out.pz hown hg hmv); have HB3 := Lib.hid (HB2.out.grown hg hBs2 (fun g h => HT2.out.rz.ge g h)); have hBs3 := hg.size; replace hBs3 := Nat.le_trans hBs2 hBs3; clear yX yY; clear hown hg hmv)
            go_roundg (n - (k + 1))
            case measure => have := HG.out; omega
            case rel => exact ⟨k + 1, rfl, by go_num, by omega, (by show Th _ _ _ _ _ _ _ _; rw [HM1.out, HM2.out, HM3.out]; simp only [qs, qa, qb]; exact HT3.out), HB3.out, hBs3⟩
          · have y0S := HDS.out _ HB.out k hlt
            rw [qs] at y0S
            have y0A := HDA.out _ HB.out k hlt
            rw [qa] at y0A
            have y0B := HDB.out _ HB.out k hlt
            rw [qb] at y0B
            go_upto_region 12 with (at_builtin; refine app_bool rfl _ _ _ rfl B _ _ HT.out.rx rfl _ (by simp) rfl (by omega) hBs ?_; intro v1 u1 hown hg hmv; obtain ⟨ao1, cap1, hv1⟩ := hown.slc; rw [List.length_append, List.length_singleton, hX1] at hv1; subst hv1; have HT1 := Lib.hid (HT.out.px hown hg hmv); have HB1 := Lib.hid (HB.out.grown hg hBs (fun g h => HT.out.rx.ge g h)); have hBs1 := hg.size; replace hBs1 := Nat.le_trans hBs hBs1; have y1S := HDS.out _ HB1.out k hlt; rw [qs] at y1S; have y1A := HDA.out _ HB1.out k hlt; rw [qa] at y1A; have y1B := HDB.out _ HB1.out k hlt; rw [qb] at y1B; clear y0S y0A y0B; clear hown hg hmv)
            go_upto_region 13 with (at_builtin; refine app_bool rfl _ _ _ rfl B _ _ HT1.out.ry rfl _ (by simp) rfl (by omega) hBs1 ?_; intro v2 u2 hown hg hmv; obtain ⟨ao2, cap2, hv2⟩ := hown.slc; rw [List.length_append, List.length_singleton, hX2] at hv2; subst hv2; have HT2 := Lib.hid (HT1.out.py hown hg hmv); have HB2 := Lib.hid (HB1.out.grown hg hBs1 (fun g h => HT1.out.ry.ge g h)); have hBs2 := hg.size; replace hBs2 := Nat.le_trans hBs1 hBs2; clear y1S y1A y1B; clear hown hg hmv)
            obtain ⟨bX, oX, hdX, -, ddX⟩ := (HT2.out.rx.is (by rw [List.length_append, List.length_singleton, hX1]; simp only [maxN]; omega)).data
            have yX := ddX k (by omega)
            rw [last_get _ _ _ hX1] at yX
            obtain rfl := hdX (by omega)
            clear ddX hdX
            obtain ⟨bY, oY, hdY, -, ddY⟩ := (HT2.out.ry.is (by rw [List.length_append, List.length_singleton, hX2]; simp only [maxN]; omega)).data
            have yY := ddY k (by omega)
            rw [last_get _ _ _ hX2] at yY
            obtain rfl := hdY (by omega)
            clear ddY hdY
            have hk1 : decide ((k : Int) < ((k + 1 : Nat) : Int)) = true := decide_eq_true (by omega)
            go_wp2_with (at_builtin; refine app_bool rfl _ _ _ rfl B _ _ HT2.out.rz rfl _ (by simp) rfl (by omega) hBs2 ?_; intro v3 u3 hown hg hmv; obtain ⟨ao3, cap3, hv3⟩ := hown.slc; rw [List.length_append, List.length_singleton, hX3] at hv3; subst hv3; have HT3 := Lib.hid (HT2.out.pz hown hg hmv); have HB3 := Lib.hid (HB2.out.grown hg hBs2 (fun g h => HT2.out.rz.ge g h)); have hBs3 := hg.size; replace hBs3 := Nat.le_trans hBs2 hBs3; clear yX yY; clear hown hg hmv)
            go_roundg (n - (k + 1))
            case measure => have := HG.out; omega
            case rel => exact ⟨k + 1, rfl, by go_num, by omega, (by show Th _ _ _ _ _ _ _ _; rw [HM1.out, HM2.out, HM3.out]; simp only [qs, qa, qb]; exact HT3.out), HB3.out, hBs3⟩
        · cases qb : b.getD k false
          · have y0S := HDS.out _ HB.out k hlt
            rw [qs] at y0S
            have y0A := HDA.out _ HB.out k hlt
            rw [qa] at y0A
            have y0B := HDB.out _ HB.out k hlt
            rw [qb] at y0B
            go_upto_region 12 with (at_builtin; refine app_bool rfl _ _ _ rfl B _ _ HT.out.rx rfl _ (by simp) rfl (by omega) hBs ?_; intro v1 u1 hown hg hmv; obtain ⟨ao1, cap1, hv1⟩ := hown.slc; rw [List.length_append, List.length_singleton, hX1] at hv1; subst hv1; have HT1 := Lib.hid (HT.out.px hown hg hmv); have HB1 := Lib.hid (HB.out.grown hg hBs (fun g h => HT.out.rx.ge g h)); have hBs1 := hg.size; replace hBs1 := Nat.le_trans hBs hBs1; have y1S := HDS.out _ HB1.out k hlt; rw [qs] at y1S; have y1A := HDA.out _ HB1.out k hlt; rw [qa] at y1A; have y1B := HDB.out _ HB1.out k hlt; rw [qb] at y1B; clear y0S y0A y0B; clear hown hg hmv)
            go_upto_region 13 with (at_builtin; refine app_bool rfl _ _ _ rfl B _ _ HT1.out.ry rfl _ (by simp) rfl (by omega) hBs1 ?_; intro v2 u2 hown hg hmv; obtain ⟨ao2, cap2, hv2⟩ := hown.slc; rw [List.length_append, List.length_singleton, hX2] at hv2; subst hv2; have HT2 := Lib.hid (HT1.out.py hown hg hmv); have HB2 := Lib.hid (HB1.out.grown hg hBs1 (fun g h => HT1.out.ry.ge g h)); have hBs2 := hg.size; replace hBs2 := Nat.le_trans hBs1 hBs2; clear y1S y1A y1B; clear hown hg hmv)
            obtain ⟨bX, oX, hdX, -, ddX⟩ := (HT2.out.rx.is (by rw [List.length_append, List.length_singleton, hX1]; simp only [maxN]; omega)).data
            have yX := ddX k (by omega)
            rw [last_get _ _ _ hX1] at yX
            obtain rfl := hdX (by omega)
            clear ddX hdX
            have hk1 : decide ((k : Int) < ((k + 1 : Nat) : Int)) = true := decide_eq_true (by omega)
            go_wp2_with (at_builtin; refine app_bool rfl _ _ _ rfl B _ _ HT2.out.rz rfl _ (by simp) rfl (by omega) hBs2 ?_; intro v3 u3 hown hg hmv; obtain ⟨ao3, cap3, hv3⟩ := hown.slc; rw [List.length_append, List.length_singleton, hX3] at hv3; subst hv3; have HT3 := Lib.hid (HT2.out.pz hown hg hmv); have HB3 := Lib.hid (HB2.out.grown hg hBs2 (fun g h => HT2.out.rz.ge g h)); have hBs3 := hg.size; replace hBs3 := Nat.le_trans hBs2 hBs3; clear yX; clear hown hg hmv)
            go_roundg (n - (k + 1))
            case measure => have := HG.out; omega
            case rel => exact ⟨k + 1, rfl, by go_num, by omega, (by show Th _ _ _ _ _ _ _ _; rw [HM1.out, HM2.out, HM3.out]; simp only [qs, qa, qb]; exact HT3.out), HB3.out, hBs3⟩
          · have y0S := HDS.out _ HB.out k hlt
            rw [qs] at y0S
            have y0A := HDA.out _ HB.out k hlt
            rw [qa] at y0A
            have y0B := HDB.out _ HB.out k hlt
            rw [qb] at y0B
            go_upto_region 12 with (at_builtin; refine app_bool rfl _ _ _ rfl B _ _ HT.out.rx rfl _ (by simp) rfl (by omega) hBs ?_; intro v1 u1 hown hg hmv; obtain ⟨ao1, cap1, hv1⟩ := hown.slc; rw [List.length_append, List.length_singleton, hX1] at hv1; subst hv1; have HT1 := Lib.hid (HT.out.px hown hg hmv); have HB1 := Lib.hid (HB.out.grown hg hBs (fun g h => HT.out.rx.ge g h)); have hBs1 := hg.size; replace hBs1 := Nat.le_trans hBs hBs1; have y1S := HDS.out _ HB1.out k hlt; rw [qs] at y1S; have y1A := HDA.out _ HB1.out k hlt; rw [qa] at y1A; have y1B := HDB.out _ HB1.out k hlt; rw [qb] at y1B; clear y0S y0A y0B; clear hown hg hmv)
            go_upto_region 13 with (at_builtin; refine app_bool rfl _ _ _ rfl B _ _ HT1.out.ry rfl _ (by simp) rfl (by omega) hBs1 ?_; intro v2 u2 hown hg hmv; obtain ⟨ao2, cap2, hv2⟩ := hown.slc; rw [List.length_append, List.length_singleton, hX2] at hv2; subst hv2; have HT2 := Lib.hid (HT1.out.py hown hg hmv); have HB2 := Lib.hid (HB1.out.grown hg hBs1 (fun g h => HT1.out.ry.ge g h)); have hBs2 := hg.size; replace hBs2 := Nat.le_trans hBs1 hBs2; clear y1S y1A y1B; clear hown hg hmv)
            obtain ⟨bX, oX, hdX, -, ddX⟩ := (HT2.out.rx.is (by rw [List.length_append, List.length_singleton, hX1]; simp only [maxN]; omega)).data
            have yX := ddX k (by omega)
            rw [last_get _ _ _ hX1] at yX
            obtain rfl := hdX (by omega)
            clear ddX hdX
            have hk1 : decide ((k : Int) < ((k + 1 : Nat) : Int)) = true := decide_eq_true (by omega)
            go_wp2_with (at_builtin; refine app_bool rfl _ _ _ rfl B _ _ HT2.out.rz rfl _ (by simp) rfl (by omega) hBs2 ?_; intro v3 u3 hown hg hmv; obtain ⟨ao3, cap3, hv3⟩ := hown.slc; rw [List.length_append, List.length_singleton, hX3] at hv3; subst hv3; have HT3 := Lib.hid (HT2.out.pz hown hg hmv); have HB3 := Lib.hid (HB2.out.grown hg hBs2 (fun g h => HT2.out.rz.ge g h)); have hBs3 := hg.size; replace hBs3 := Nat.le_trans hBs2 hBs3; clear yX; clear hown hg hmv)
            go_roundg (n - (k + 1))
            case measure => have := HG.out; omega
            case rel => exact ⟨k + 1, rfl, by go_num, by omega, (by show Th _ _ _ _ _ _ _ _; rw [HM1.out, HM2.out, HM3.out]; simp only [qs, qa, qb]; exact HT3.out), HB3.out, hBs3⟩
    · obtain rfl : k = n := by omega
      have hb9 : Below w5.heap.size w5 wr := HBZ.out wr HB.out
      have hg := HG5.out.below hb9
      have ht := HT5.out.below hb9
      have hx := (hb9.block _ (Array.getElem?_eq_some_iff.1 HX5.out).1).trans HX5.out
      have hbt := HBT.out.trans (hb9.mono HBT.out.size)
      have iX : IsBools wr u15 _ := HT.out.rx.is (by rw [mapK_len]; simp only [maxN]; omega)
      have iY : IsBools wr u16 _ := HT.out.ry.is (by rw [mapK_len]; simp only [maxN]; omega)
      have iZ : IsBools wr u17 _ := HT.out.rz.is (by rw [mapK_len]; simp only [maxN]; omega)
      obtain ⟨xX, hXe⟩ : ∃ X, mapK (fun i => set.getD i false && a.getD i false) k = X := ⟨_, rfl⟩
      obtain ⟨xY, hYe⟩ : ∃ X, mapK (fun i => set.getD i false && b.getD i false) k = X := ⟨_, rfl⟩
      obtain ⟨xZ, hZe⟩ : ∃ X, mapK (fun i => set.getD i false && a.getD i false || set.getD i false && b.getD i false) k = X := ⟨_, rfl⟩
      rw [hXe] at iX
      rw [hYe] at iY
      rw [hZe] at iZ
      have HP0 : Hid ((stB g p xX (withL xX s) = true → winB g p xX (withL xX s) = true) ∧ (stB g p xY (withL xY s) = true → winB g p xY (withL xY s) = true) ∧ (stB g p xX (withL xX s) = true → stB g p xY (withL xY s) = true → winB g p xZ (withL xZ s) = true)) := by
        have h1 := HPL.out
        have h2 := HPY.out
        rw [hXe, hYe, hZe] at h1
        rw [hYe] at h2
        exact ⟨h1.1, h2, h1.2⟩
      clear hXe hYe hZe HPL HPY hb9 HT HB HG5 HT5 HX5 HBT HBZ HDS HDA HDB HTh HB7 hdS hdA hdB mS mA mB HG
      generalize u15 = vx at *
      generalize u16 = vy at *
      generalize u17 = vz at *
      have HIvx : Hid (∀ W, Below wr.heap.size wr W → Calls Try.prog 26 #[vx, vT] W (NewN (withL xX s) W)) := fun W h => lwithin_c W _ _ xX s (iX.below h) (ht.below h) HS3.out
      have HIvy : Hid (∀ W, Below wr.heap.size wr W → Calls Try.prog 26 #[vy, vT] W (NewN (withL xY s) W)) := fun W h => lwithin_c W _ _ xY s (iY.below h) (ht.below h) HS3.out
      have HIvz : Hid (∀ W, Below wr.heap.size wr W → Calls Try.prog 26 #[vz, vT] W (NewN (withL xZ s) W)) := fun W h => lwithin_c W _ _ xZ s (iZ.below h) (ht.below h) HS3.out
      obtain ⟨ox, hox⟩ : ∃ o, o = stB g p xX (withL xX s) := ⟨_, rfl⟩
      obtain ⟨oy, hoy⟩ : ∃ o, o = stB g p xY (withL xY s) := ⟨_, rfl⟩
      have HVx : Hid (∀ W u, Below wr.heap.size wr W → IsInts W u (withL xX s) → Calls Try.prog 13 #[.agg #[.slice a0 n0 c0, .slice a1 n1 c1, .slice a2 n2 c2], .int .i64 p, vx, u] W (Calm (.bool ox) W)) := fun W u h hu => by
        rw [hox]
        exact StValid_c W _ _ _ g p xX (withL xX s) (hg.below h) (iX.below h) hu
      have HVy : Hid (∀ W u, Below wr.heap.size wr W → IsInts W u (withL xY s) → Calls Try.prog 13 #[.agg #[.slice a0 n0 c0, .slice a1 n1 c1, .slice a2 n2 c2], .int .i64 p, vy, u] W (Calm (.bool oy) W)) := fun W u h hu => by
        rw [hoy]
        exact StValid_c W _ _ _ g p xY (withL xY s) (hg.below h) (iY.below h) hu
      have HWx : Hid (ox = true → ∀ W u, Below wr.heap.size wr W → IsInts W u (withL xX s) → Calls Try.prog 15 #[.agg #[.slice a0 n0 c0, .slice a1 n1 c1, .slice a2 n2 c2], .int .i64 p, vx, u] W (Calm (.bool true) W)) := fun ho W u h hu => by
        have k := Wins_c W _ _ _ g p xX (withL xX s) (hg.below h) (iX.below h) hu
        rwa [HP0.out.1 (hox ▸ ho)] at k
      have HWy : Hid (oy = true → ∀ W u, Below wr.heap.size wr W → IsInts W u (withL xY s) → Calls Try.prog 15 #[.agg #[.slice a0 n0 c0, .slice a1 n1 c1, .slice a2 n2 c2], .int .i64 p, vy, u] W (Calm (.bool true) W)) := fun ho W u h hu => by
        have k := Wins_c W _ _ _ g p xY (withL xY s) (hg.below h) (iY.below h) hu
        rwa [HP0.out.2.1 (hoy ▸ ho)] at k
      have HWz : Hid (ox = true ∧ oy = true → ∀ W u, Below wr.heap.size wr W → IsInts W u (withL xZ s) → Calls Try.prog 15 #[.agg #[.slice a0 n0 c0, .slice a1 n1 c1, .slice a2 n2 c2], .int .i64 p, vz, u] W (Calm (.bool true) W)) := fun ho W u h hu => by
        have k := Wins_c W _ _ _ g p xZ (withL xZ s) (hg.below h) (iZ.below h) hu
        rwa [HP0.out.2.2 (hox ▸ ho.1) (hoy ▸ ho.2)] at k
      have HC : Hid (∀ W, Below wr.heap.size wr W → W.cell? ⟨zg, 0, none⟩ = some (.slice a0 n0 c0) ∧ W.cell? ⟨zg, 1, none⟩ = some (.slice a1 n1 c1) ∧ W.cell? ⟨zg, 2, none⟩ = some (.slice a2 n2 c2)) := fun W h => by
        have k := (h.block _ (Array.getElem?_eq_some_iff.1 hx).1).trans hx
        exact ⟨cell_of_row _ _ 0 _ _ _ k, cell_of_row _ _ 1 _ _ _ k, cell_of_row _ _ 2 _ _ _ k⟩
      have HBT := Lib.hid hbt
      clear hg ht hx hbt iX iY iZ hox hoy HP0
      generalize withL xX s = LX at *
      generalize withL xY s = LY at *
      generalize withL xZ s = LZ at *
      go_wp2_with fail
      have HB1 : Hid (∀ W, Below wr.drew.heap.size wr.drew W → Below wr.heap.size wr W) := fun W h => (Below.drew (B := wr.heap.size) (Below.refl _ _)).trans h
      have HG : Hid (∀ W, Below wr.drew.heap.size wr.drew W → W.cell? ⟨zg, 0, none⟩ = some (.slice a0 n0 c0) ∧ W.cell? ⟨zg, 1, none⟩ = some (.slice a1 n1 c1) ∧ W.cell? ⟨zg, 2, none⟩ = some (.slice a2 n2 c2)) := fun W h => HC.out W (HB1.out W h)
      refine region_stable hmx (RPa g p LX LY LZ vx vy vz vT a0 a1 a2 n0 n1 n2 c0 c1 c2 ox oy) (fun vs => { tmps := (_ :: _ :: _ :: _ :: _ :: _ :: _ :: _ :: _ :: _ :: _ :: _ :: _ :: _ :: _ :: _ :: _ :: _ :: _ :: vs 7 :: _ :: _ :: _ :: _ :: _ :: _ :: _ :: _ :: _ :: _ :: _ :: _ :: _ :: _ :: _ :: _ :: _ :: _ :: _ :: _ :: _ :: _ :: _ :: _ :: _ :: _ :: _ :: _ :: _ :: _ :: _ :: _ :: _ :: _ :: _ :: _ :: _ :: _ :: _ :: _ :: _ :: _ :: _ :: _ :: _ :: _ :: _ :: _ :: _ :: _ :: _ :: _ :: _ :: _ :: _ :: _ :: _ :: _ :: _ :: _ :: _ :: _ :: _ :: _ :: _ :: _ :: _ :: _ :: _ :: _ :: _ :: _ :: _ :: _ :: _ :: _ :: _ :: _ :: _ :: _ :: vs 0 :: vs 1 :: vs 2 :: vs 3 :: vs 4 :: vs 5 :: vs 6 :: _ :: _ :: _ :: _ :: _ :: _ :: _ :: _ :: _ :: _ :: _ :: _ :: _ :: _ :: _ :: _ :: _ :: _ :: _ :: _ :: _ :: _ :: _ :: _ :: _ :: _ :: _ :: _ :: _ :: _ :: _ :: _ :: _ :: _ :: _ :: _ :: _ :: _ :: _ :: _ :: _ :: _ :: _ :: _ :: _ :: _ :: _ :: _ :: _ :: []).toArray, defers := _ }) (fun _ => undef) rfl (by kernel_rfl) (fun _ _ _ _ h hb => h.below hb) ?step ?fin
      case step =>
        intro ix o ho
        match ix, ho with
        | 0, ho =>
          obtain rfl := Option.some.inj ho
          intro vs W K hB hD hK
          have HK := Lib.hid hK
          obtain ⟨d0, d1, d2⟩ := HG.out W hB
          clear hK hD ho
          dsimp only
          go_simp
          have h := HK.out _ _ (Below.refl _ _) rfl
          simp only [upd, Nat.reduceEqDiff, reduceIte] at h
          exact h
        | 1, ho =>
          obtain rfl := Option.some.inj ho
          intro vs W K hB hD hK
          have HK := Lib.hid hK
          clear hK hD ho
          dsimp only
          go_simp
          have h := HK.out _ _ (Below.refl _ _) rfl
          simp only [upd, Nat.reduceEqDiff, reduceIte] at h
          exact h
        | 2, ho =>
          obtain rfl := Option.some.inj ho
          intro vs W K hB hD hK
          have HK := Lib.hid hK
          clear hK hD ho
          dsimp only
          go_simp
          have h := HK.out _ _ (Below.refl _ _) rfl
          simp only [upd, Nat.reduceEqDiff, reduceIte] at h
          exact h
        | 3, ho =>
          obtain rfl := Option.some.inj ho
          intro vs W K hB hD hK
          have HK := Lib.hid hK
          clear hK hD ho
          dsimp only
          go_simp
          have h := HK.out _ _ (Below.refl _ _) rfl
          simp only [upd, Nat.reduceEqDiff, reduceIte] at h
          exact h
        | 4, ho =>
          obtain rfl := Option.some.inj ho
          intro vs W K hB hD hK
          have HK := Lib.hid hK
          clear hK hD ho
          dsimp only
          go_simp
          have h := HK.out _ _ (Below.refl _ _) rfl
          simp only [upd, Nat.reduceEqDiff, reduceIte] at h
          exact h
        | 5, ho =>
          obtain rfl := Option.some.inj ho
          intro vs W K hB hD hK
          have HK := Lib.hid hK
          have e3 : vs 3 = vx := dep_of hD 3 (by rfl)
          have e4 : vs 4 = vT := dep_of hD 4 (by rfl)
          clear hK hD ho
          dsimp only
          go_simp
          refine (HIvx.out W (HB1.out W hB)).mono ?_
          rintro e W' ⟨u', rfl, hu, hb⟩
          have h := HK.out _ _ hb hu
          simp only [upd, Nat.reduceEqDiff, reduceIte, e3, e4] at h
          exact h
        | 6, ho =>
          obtain rfl := Option.some.inj ho
          intro vs W K hB hD hK
          have HK := Lib.hid hK
          have e0 : vs 0 = .agg #[.slice a0 n0 c0, .slice a1 n1 c1, .slice a2 n2 c2] := dep_of hD 0 (by rfl)
          have e1 : vs 1 = .int .i64 p := dep_of hD 1 (by rfl)
          have e2 : vs 2 = vx := dep_of hD 2 (by rfl)
          have i5 := dep_of (R := RPa g p LX LY LZ vx vy vz vT a0 a1 a2 n0 n1 n2 c0 c1 c2 ox oy) hD 5 (by rfl)
          clear hK hD ho
          dsimp only
          go_simp
          refine (HVx.out W (vs 5) (HB1.out W hB) i5).mono ?_
          rintro e W' ⟨rfl, hb⟩
          have h := HK.out _ _ hb rfl
          simp only [upd, Nat.reduceEqDiff, reduceIte, e0, e1, e2] at h
          exact h
        | 7, ho =>
          obtain rfl := Option.some.inj ho
          intro vs W K hB hD hK
          have HK := Lib.hid hK
          have e6 : vs 6 = .bool ox := dep_of hD 6 (by rfl)
          clear hK hD ho
          dsimp only
          go_simp
          have h := HK.out _ _ (Below.refl _ _) rfl
          simp only [upd, Nat.reduceEqDiff, reduceIte, e6] at h
          exact h
        | q + 8, ho => exact absurd ho (by simp)
      case fin =>
        intro vs w10 hB hall
        have el : vs 7 = .bool ox := hall 7 (by decide)
        have HLn : Hid (Below wr.heap.size wr w10) := HB1.out w10 hB
        clear hall hB HB1 HG
        rename Hid (Below wr.heap.size wr w10) => HL
        rw [el]
        generalize vs 0 = t0
        generalize vs 1 = t1
        generalize vs 2 = t2
        generalize vs 3 = t3
        generalize vs 4 = t4
        generalize vs 5 = t5
        generalize vs 6 = t6
        clear vs el
        go_wp2_with fail
        have HB1 : Hid (∀ W, Below w10.drew.heap.size w10.drew W → Below wr.heap.size wr W) := fun W h => HL.out.trans (((Below.drew (B := w10.heap.size) (Below.refl _ _)).trans h).mono HL.out.size)
        have HG : Hid (∀ W, Below w10.drew.heap.size w10.drew W → W.cell? ⟨zg, 0, none⟩ = some (.slice a0 n0 c0) ∧ W.cell? ⟨zg, 1, none⟩ = some (.slice a1 n1 c1) ∧ W.cell? ⟨zg, 2, none⟩ = some (.slice a2 n2 c2)) := fun W h => HC.out W (HB1.out W h)
        refine region_stable hmx (RPb g p LX LY LZ vx vy vz vT a0 a1 a2 n0 n1 n2 c0 c1 c2 ox oy) (fun vs => { tmps := (_ :: _ :: _ :: _ :: _ :: _ :: _ :: _ :: _ :: _ :: _ :: _ :: _ :: _ :: _ :: _ :: _ :: _ :: _ :: _ :: vs 7 :: _ :: _ :: _ :: _ :: _ :: _ :: _ :: _ :: _ :: _ :: _ :: _ :: _ :: _ :: _ :: _ :: _ :: _ :: _ :: _ :: _ :: _ :: _ :: _ :: _ :: _ :: _ :: _ :: _ :: _ :: _ :: _ :: _ :: _ :: _ :: _ :: _ :: _ :: _ :: _ :: _ :: _ :: _ :: _ :: _ :: _ :: _ :: _ :: _ :: _ :: _ :: _ :: _ :: _ :: _ :: _ :: _ :: _ :: _ :: _ :: _ :: _ :: _ :: _ :: _ :: _ :: _ :: _ :: _ :: _ :: _ :: _ :: _ :: _ :: _ :: _ :: _ :: _ :: _ :: _ :: _ :: _ :: _ :: _ :: _ :: _ :: vs 0 :: vs 1 :: vs 2 :: vs 3 :: vs 4 :: vs 5 :: vs 6 :: _ :: _ :: _ :: _ :: _ :: _ :: _ :: _ :: _ :: _ :: _ :: _ :: _ :: _ :: _ :: _ :: _ :: _ :: _ :: _ :: _ :: _ :: _ :: _ :: _ :: _ :: _ :: _ :: _ :: _ :: _ :: _ :: _ :: _ :: _ :: _ :: _ :: _ :: _ :: _ :: _ :: _ :: []).toArray, defers := _ }) (fun _ => undef) rfl (by kernel_rfl) (fun _ _ _ _ h hb => h.below hb) ?step ?fin
        case step =>
          intro ix o ho
          match ix, ho with
          | 0, ho =>
            obtain rfl := Option.some.inj ho
            intro vs W K hB hD hK
            have HK := Lib.hid hK
            obtain ⟨d0, d1, d2⟩ := HG.out W hB
            clear hK hD ho
            dsimp only
            go_simp
            have h := HK.out _ _ (Below.refl _ _) rfl
            simp only [upd, Nat.reduceEqDiff, reduceIte] at h
            exact h
          | 1, ho =>
            obtain rfl := Option.some.inj ho
            intro vs W K hB hD hK
            have HK := Lib.hid hK
            clear hK hD ho
            dsimp only
            go_simp
            have h := HK.out _ _ (Below.refl _ _) rfl
            simp only [upd, Nat.reduceEqDiff, reduceIte] at h
            exact h
          | 2, ho =>
            obtain rfl := Option.some.inj ho
            intro vs W K hB hD hK
            have HK := Lib.hid hK
            clear hK hD ho
            dsimp only
            go_simp
            have h := HK.out _ _ (Below.refl _ _) rfl
            simp only [upd, Nat.reduceEqDiff, reduceIte] at h
            exact h
          | 3, ho =>
            obtain rfl := Option.some.inj ho
            intro vs W K hB hD hK
            have HK := Lib.hid hK
            clear hK hD ho
            dsimp only
            go_simp
            have h := HK.out _ _ (Below.refl _ _) rfl
            simp only [upd, Nat.reduceEqDiff, reduceIte] at h
            exact h
          | 4, ho =>
            obtain rfl := Option.some.inj ho
            intro vs W K hB hD hK
            have HK := Lib.hid hK
            clear hK hD ho
            dsimp only
            go_simp
            have h := HK.out _ _ (Below.refl _ _) rfl
            simp only [upd, Nat.reduceEqDiff, reduceIte] at h
            exact h
          | 5, ho =>
            obtain rfl := Option.some.inj ho
            intro vs W K hB hD hK
            have HK := Lib.hid hK
            have e3 : vs 3 = vy := dep_of hD 3 (by rfl)
            have e4 : vs 4 = vT := dep_of hD 4 (by rfl)
            clear hK hD ho
            dsimp only
            go_simp
            refine (HIvy.out W (HB1.out W hB)).mono ?_
            rintro e W' ⟨u', rfl, hu, hb⟩
            have h := HK.out _ _ hb hu
            simp only [upd, Nat.reduceEqDiff, reduceIte, e3, e4] at h
            exact h
          | 6, ho =>
            obtain rfl := Option.some.inj ho
            intro vs W K hB hD hK
            have HK := Lib.hid hK
            have e0 : vs 0 = .agg #[.slice a0 n0 c0, .slice a1 n1 c1, .slice a2 n2 c2] := dep_of hD 0 (by rfl)
            have e1 : vs 1 = .int .i64 p := dep_of hD 1 (by rfl)
            have e2 : vs 2 = vy := dep_of hD 2 (by rfl)
            have i5 := dep_of (R := RPb g p LX LY LZ vx vy vz vT a0 a1 a2 n0 n1 n2 c0 c1 c2 ox oy) hD 5 (by rfl)
            clear hK hD ho
            dsimp only
            go_simp
            refine (HVy.out W (vs 5) (HB1.out W hB) i5).mono ?_
            rintro e W' ⟨rfl, hb⟩
            have h := HK.out _ _ hb rfl
            simp only [upd, Nat.reduceEqDiff, reduceIte, e0, e1, e2] at h
            exact h
          | 7, ho =>
            obtain rfl := Option.some.inj ho
            intro vs W K hB hD hK
            have HK := Lib.hid hK
            have e6 : vs 6 = .bool oy := dep_of hD 6 (by rfl)
            clear hK hD ho
            dsimp only
            go_simp
            have h := HK.out _ _ (Below.refl _ _) rfl
            simp only [upd, Nat.reduceEqDiff, reduceIte, e6] at h
            exact h
          | q + 8, ho => exact absurd ho (by simp)
        case fin =>
          intro vs w11 hB hall
          have el : vs 7 = .bool oy := hall 7 (by decide)
          have HLn : Hid (Below wr.heap.size wr w11) := HB1.out w11 hB
          clear hall hB HB1 HG HL
          rename Hid (Below wr.heap.size wr w11) => HL
          rw [el]
          generalize vs 0 = s0
          generalize vs 1 = s1
          generalize vs 2 = s2
          generalize vs 3 = s3
          generalize vs 4 = s4
          generalize vs 5 = s5
          generalize vs 6 = s6
          clear vs el
          clear HVx HVy
          cases ox
          · cases oy
            · go_wp2_with fail
              have HB1 : Hid (∀ W, Below w11.drew.heap.size w11.drew W → Below wr.heap.size wr W) := fun W h => HL.out.trans (((Below.drew (B := w11.heap.size) (Below.refl _ _)).trans h).mono HL.out.size)
              have HG : Hid (∀ W, Below w11.drew.heap.size w11.drew W → W.cell? ⟨zg, 0, none⟩ = some (.slice a0 n0 c0) ∧ W.cell? ⟨zg, 1, none⟩ = some (.slice a1 n1 c1) ∧ W.cell? ⟨zg, 2, none⟩ = some (.slice a2 n2 c2)) := fun W h => HC.out W (HB1.out W h)
              refine region_stable hmx (RPcff g p LX LY LZ vx vy vz vT a0 a1 a2 n0 n1 n2 c0 c1 c2 false false) (fun vs => { tmps := (_ :: _ :: _ :: _ :: _ :: _ :: _ :: _ :: _ :: _ :: _ :: _ :: _ :: _ :: _ :: _ :: _ :: _ :: _ :: _ :: _ :: _ :: _ :: _ :: _ :: _ :: _ :: _ :: _ :: _ :: _ :: _ :: _ :: _ :: _ :: _ :: _ :: _ :: _ :: _ :: _ :: _ :: _ :: _ :: _ :: _ :: _ :: _ :: _ :: _ :: _ :: _ :: _ :: _ :: _ :: _ :: _ :: _ :: _ :: _ :: _ :: _ :: _ :: _ :: _ :: _ :: _ :: _ :: _ :: _ :: _ :: _ :: _ :: _ :: _ :: _ :: _ :: _ :: _ :: _ :: _ :: _ :: _ :: _ :: _ :: _ :: _ :: _ :: _ :: _ :: _ :: _ :: _ :: _ :: _ :: _ :: _ :: _ :: _ :: _ :: _ :: _ :: _ :: _ :: _ :: _ :: _ :: _ :: _ :: _ :: _ :: _ :: _ :: _ :: vs 0 :: vs 1 :: vs 2 :: vs 3 :: vs 4 :: vs 5 :: vs 6 :: vs 7 :: vs 8 :: vs 9 :: vs 10 :: vs 11 :: vs 12 :: vs 13 :: vs 14 :: vs 15 :: vs 16 :: vs 17 :: vs 18 :: vs 19 :: vs 20 :: vs 21 :: vs 22 :: vs 23 :: _ :: _ :: _ :: _ :: _ :: _ :: _ :: _ :: _ :: _ :: _ :: _ :: _ :: _ :: _ :: _ :: _ :: _ :: []).toArray, defers := _ }) (fun _ => undef) rfl (by kernel_rfl) (fun _ _ _ _ h hb => h.below hb) ?step ?fin
              case step =>
                intro ix o ho
                match ix, ho with
                | 0, ho =>
                  obtain rfl := Option.some.inj ho
                  intro vs W K hB hD hK
                  have HK := Lib.hid hK
                  clear hK hD ho
                  dsimp only
                  go_simp
                  have h := HK.out _ _ (Below.refl _ _) rfl
                  simp only [upd, Nat.reduceEqDiff, reduceIte] at h
                  exact h
                | 1, ho =>
                  obtain rfl := Option.some.inj ho
                  intro vs W K hB hD hK
                  have HK := Lib.hid hK
                  have e0 : vs 0 = .bool false := dep_of hD 0 (by rfl)
                  clear hK hD ho
                  dsimp only
                  go_simp
                  have h := HK.out _ _ (Below.refl _ _) rfl
                  simp only [upd, Nat.reduceEqDiff, reduceIte, e0] at h
                  exact h
                | 2, ho =>
                  obtain rfl := Option.some.inj ho
                  intro vs W K hB hD hK
                  have HK := Lib.hid hK
                  have e1 : vs 1 = .bool false := dep_of hD 1 (by rfl)
                  clear hK hD ho
                  dsimp only
                  go_simp
                  have h := HK.out _ _ (Below.refl _ _) rfl
                  simp only [upd, Nat.reduceEqDiff, reduceIte, e1] at h
                  exact h
                | 3, ho =>
                  obtain rfl := Option.some.inj ho
                  intro vs W K hB hD hK
                  have HK := Lib.hid hK
                  have e1 : vs 1 = .bool false := dep_of hD 1 (by rfl)
                  clear hK hD ho
                  dsimp only
                  go_simp
                  have h := HK.out _ _ (Below.refl _ _) rfl
                  simp only [upd, Nat.reduceEqDiff, reduceIte, e1] at h
                  exact h
                | 4, ho =>
                  obtain rfl := Option.some.inj ho
                  intro vs W K hB hD hK
                  have HK := Lib.hid hK
                  have e1 : vs 1 = .bool false := dep_of hD 1 (by rfl)
                  clear hK hD ho
                  dsimp only
                  go_simp
                  have h := HK.out _ _ (Below.refl _ _) rfl
                  simp only [upd, Nat.reduceEqDiff, reduceIte, e1] at h
                  exact h
                | 5, ho =>
                  obtain rfl := Option.some.inj ho
                  intro vs W K hB hD hK
                  have HK := Lib.hid hK
                  have e1 : vs 1 = .bool false := dep_of hD 1 (by rfl)
                  clear hK hD ho
                  dsimp only
                  go_simp
                  have h := HK.out _ _ (Below.refl _ _) rfl
                  simp only [upd, Nat.reduceEqDiff, reduceIte, e1] at h
                  exact h
                | 6, ho =>
                  obtain rfl := Option.some.inj ho
                  intro vs W K hB hD hK
                  have HK := Lib.hid hK
                  have e1 : vs 1 = .bool false := dep_of hD 1 (by rfl)
                  clear hK hD ho
                  dsimp only
                  go_simp
                  have h := HK.out _ _ (Below.refl _ _) rfl
                  simp only [upd, Nat.reduceEqDiff, reduceIte, e1] at h
                  exact h
                | 7, ho =>
                  obtain rfl := Option.some.inj ho
                  intro vs W K hB hD hK
                  have HK := Lib.hid hK
                  have e1 : vs 1 = .bool false := dep_of hD 1 (by rfl)
                  clear hK hD ho
                  dsimp only
                  go_simp
                  have h := HK.out _ _ (Below.refl _ _) rfl
                  simp only [upd, Nat.reduceEqDiff, reduceIte, e1] at h
                  exact h
                | 8, ho =>
                  obtain rfl := Option.some.inj ho
                  intro vs W K hB hD hK
                  have HK := Lib.hid hK
                  have e1 : vs 1 = .bool false := dep_of hD 1 (by rfl)
                  clear hK hD ho
                  dsimp only
                  go_simp
                  have h := HK.out _ _ (Below.refl _ _) rfl
                  simp only [upd, Nat.reduceEqDiff, reduceIte, e1] at h
                  exact h
                | 9, ho =>
                  obtain rfl := Option.some.inj ho
                  intro vs W K hB hD hK
                  have HK := Lib.hid hK
                  have e1 : vs 1 = .bool false := dep_of hD 1 (by rfl)
                  clear hK hD ho
                  dsimp only
                  go_simp
                  have h := HK.out _ _ (Below.refl _ _) rfl
                  simp only [upd, Nat.reduceEqDiff, reduceIte, e1] at h
                  exact h
                | 10, ho =>
                  obtain rfl := Option.some.inj ho
                  intro vs W K hB hD hK
                  have HK := Lib.hid hK
                  have e1 : vs 1 = .bool false := dep_of hD 1 (by rfl)
                  clear hK hD ho
                  dsimp only
                  go_simp
                  have h := HK.out _ _ (Below.refl _ _) rfl
                  simp only [upd, Nat.reduceEqDiff, reduceIte, e1] at h
                  exact h
                | 11, ho =>
                  obtain rfl := Option.some.inj ho
                  intro vs W K hB hD hK
                  have HK := Lib.hid hK
                  have e10 : vs 10 = .bool false := dep_of hD 10 (by rfl)
                  clear hK hD ho
                  dsimp only
                  go_simp
                  have h := HK.out _ _ (Below.refl _ _) rfl
                  simp only [upd, Nat.reduceEqDiff, reduceIte, e10] at h
                  exact h
                | 12, ho =>
                  obtain rfl := Option.some.inj ho
                  intro vs W K hB hD hK
                  have HK := Lib.hid hK
                  have e11 : vs 11 = .bool false := dep_of hD 11 (by rfl)
                  clear hK hD ho
                  dsimp only
                  go_simp
                  have h := HK.out _ _ (Below.refl _ _) rfl
                  simp only [upd, Nat.reduceEqDiff, reduceIte, e11] at h
                  exact h
                | 13, ho =>
                  obtain rfl := Option.some.inj ho
                  intro vs W K hB hD hK
                  have HK := Lib.hid hK
                  have e11 : vs 11 = .bool false := dep_of hD 11 (by rfl)
                  have e12 : vs 12 = .bool false := dep_of hD 12 (by rfl)
                  clear hK hD ho
                  dsimp only
                  go_simp
                  have h := HK.out _ _ (Below.refl _ _) rfl
                  simp only [upd, Nat.reduceEqDiff, reduceIte, e11, e12] at h
                  exact h
                | 14, ho =>
                  obtain rfl := Option.some.inj ho
                  intro vs W K hB hD hK
                  have HK := Lib.hid hK
                  have e13 : vs 13 = .bool false := dep_of hD 13 (by rfl)
                  clear hK hD ho
                  dsimp only
                  go_simp
                  have h := HK.out _ _ (Below.refl _ _) rfl
                  simp only [upd, Nat.reduceEqDiff, reduceIte, e13] at h
                  exact h
                | 15, ho =>
                  obtain rfl := Option.some.inj ho
                  intro vs W K hB hD hK
                  have HK := Lib.hid hK
                  have e13 : vs 13 = .bool false := dep_of hD 13 (by rfl)
                  clear hK hD ho
                  dsimp only
                  go_simp
                  have h := HK.out _ _ (Below.refl _ _) rfl
                  simp only [upd, Nat.reduceEqDiff, reduceIte, e13] at h
                  exact h
                | 16, ho =>
                  obtain rfl := Option.some.inj ho
                  intro vs W K hB hD hK
                  have HK := Lib.hid hK
                  have e13 : vs 13 = .bool false := dep_of hD 13 (by rfl)
                  clear hK hD ho
                  dsimp only
                  go_simp
                  have h := HK.out _ _ (Below.refl _ _) rfl
                  simp only [upd, Nat.reduceEqDiff, reduceIte, e13] at h
                  exact h
                | 17, ho =>
                  obtain rfl := Option.some.inj ho
                  intro vs W K hB hD hK
                  have HK := Lib.hid hK
                  have e13 : vs 13 = .bool false := dep_of hD 13 (by rfl)
                  clear hK hD ho
                  dsimp only
                  go_simp
                  have h := HK.out _ _ (Below.refl _ _) rfl
                  simp only [upd, Nat.reduceEqDiff, reduceIte, e13] at h
                  exact h
                | 18, ho =>
                  obtain rfl := Option.some.inj ho
                  intro vs W K hB hD hK
                  have HK := Lib.hid hK
                  have e13 : vs 13 = .bool false := dep_of hD 13 (by rfl)
                  clear hK hD ho
                  dsimp only
                  go_simp
                  have h := HK.out _ _ (Below.refl _ _) rfl
                  simp only [upd, Nat.reduceEqDiff, reduceIte, e13] at h
                  exact h
                | 19, ho =>
                  obtain rfl := Option.some.inj ho
                  intro vs W K hB hD hK
                  have HK := Lib.hid hK
                  have e13 : vs 13 = .bool false := dep_of hD 13 (by rfl)
                  clear hK hD ho
                  dsimp only
                  go_simp
                  have h := HK.out _ _ (Below.refl _ _) rfl
                  simp only [upd, Nat.reduceEqDiff, reduceIte, e13] at h
                  exact h
                | 20, ho =>
                  obtain rfl := Option.some.inj ho
                  intro vs W K hB hD hK
                  have HK := Lib.hid hK
                  have e13 : vs 13 = .bool false := dep_of hD 13 (by rfl)
                  clear hK hD ho
                  dsimp only
                  go_simp
                  have h := HK.out _ _ (Below.refl _ _) rfl
                  simp only [upd, Nat.reduceEqDiff, reduceIte, e13] at h
                  exact h
                | 21, ho =>
                  obtain rfl := Option.some.inj ho
                  intro vs W K hB hD hK
                  have HK := Lib.hid hK
                  have e13 : vs 13 = .bool false := dep_of hD 13 (by rfl)
                  clear hK hD ho
                  dsimp only
                  go_simp
                  have h := HK.out _ _ (Below.refl _ _) rfl
                  simp only [upd, Nat.reduceEqDiff, reduceIte, e13] at h
                  exact h
                | 22, ho =>
                  obtain rfl := Option.some.inj ho
                  intro vs W K hB hD hK
                  have HK := Lib.hid hK
                  have e11 : vs 11 = .bool false := dep_of hD 11 (by rfl)
                  have e13 : vs 13 = .bool false := dep_of hD 13 (by rfl)
                  clear hK hD ho
                  dsimp only
                  go_simp
                  have h := HK.out _ _ (Below.refl _ _) rfl
                  simp only [upd, Nat.reduceEqDiff, reduceIte, e11, e13] at h
                  exact h
                | 23, ho =>
                  obtain rfl := Option.some.inj ho
                  intro vs W K hB hD hK
                  have HK := Lib.hid hK
                  have e11 : vs 11 = .bool false := dep_of hD 11 (by rfl)
                  have e22 : vs 22 = .bool false := dep_of hD 22 (by rfl)
                  clear hK hD ho
                  dsimp only
                  go_simp
                  have h := HK.out _ _ (Below.refl _ _) rfl
                  simp only [upd, Nat.reduceEqDiff, reduceIte, e11, e22] at h
                  exact h
                | q + 24, ho => exact absurd ho (by simp)
              case fin =>
                intro vs w12 hB hall
                have el : vs 23 = .bool false := hall 23 (by decide)
                have HLn : Hid (Below wr.heap.size wr w12) := HB1.out w12 hB
                clear hall hB HB1 HG HL
                rename Hid (Below wr.heap.size wr w12) => HL
                rw [el]
                generalize vs 0 = m0
                generalize vs 1 = m1
                generalize vs 2 = m2
                generalize vs 3 = m3
                generalize vs 4 = m4
                generalize vs 5 = m5
                generalize vs 6 = m6
                generalize vs 7 = m7
                generalize vs 8 = m8
                generalize vs 9 = m9
                generalize vs 10 = m10
                generalize vs 11 = m11
                generalize vs 12 = m12
                generalize vs 13 = m13
                generalize vs 14 = m14
                generalize vs 15 = m15
                generalize vs 16 = m16
                generalize vs 17 = m17
                generalize vs 18 = m18
                generalize vs 19 = m19
                generalize vs 20 = m20
                generalize vs 21 = m21
                generalize vs 22 = m22
                clear vs el
                go_wp2_with fail
                have HB1 : Hid (∀ W, Below w12.drew.heap.size w12.drew W → Below wr.heap.size wr W) := fun W h => HL.out.trans (((Below.drew (B := w12.heap.size) (Below.refl _ _)).trans h).mono HL.out.size)
                have HG : Hid (∀ W, Below w12.drew.heap.size w12.drew W → W.cell? ⟨zg, 0, none⟩ = some (.slice a0 n0 c0) ∧ W.cell? ⟨zg, 1, none⟩ = some (.slice a1 n1 c1) ∧ W.cell? ⟨zg, 2, none⟩ = some (.slice a2 n2 c2)) := fun W h => HC.out W (HB1.out W h)
                refine region_stable hmx (RPdff g p LX LY LZ vx vy vz vT a0 a1 a2 n0 n1 n2 c0 c1 c2 false false) (fun vs => { tmps := (_ :: _ :: _ :: _ :: _ :: _ :: _ :: _ :: _ :: _ :: _ :: _ :: vs 18 :: _ :: _ :: _ :: _ :: _ :: _ :: _ :: _ :: _ :: _ :: _ :: _ :: _ :: _ :: _ :: _ :: _ :: _ :: _ :: _ :: _ :: _ :: _ :: _ :: _ :: _ :: _ :: _ :: _ :: _ :: _ :: _ :: _ :: _ :: _ :: _ :: _ :: _ :: _ :: _ :: _ :: _ :: _ :: _ :: _ :: _ :: _ :: _ :: _ :: _ :: _ :: _ :: _ :: _ :: _ :: _ :: _ :: _ :: _ :: _ :: _ :: _ :: _ :: _ :: _ :: _ :: _ :: _ :: _ :: _ :: _ :: _ :: _ :: _ :: _ :: _ :: _ :: _ :: _ :: _ :: _ :: _ :: _ :: _ :: _ :: _ :: _ :: _ :: _ :: _ :: _ :: _ :: _ :: _ :: _ :: _ :: _ :: _ :: _ :: _ :: _ :: _ :: _ :: _ :: _ :: _ :: _ :: _ :: _ :: _ :: _ :: _ :: _ :: _ :: _ :: _ :: _ :: _ :: _ :: _ :: _ :: _ :: _ :: _ :: _ :: vs 0 :: vs 1 :: vs 2 :: vs 3 :: vs 4 :: vs 5 :: vs 6 :: vs 7 :: vs 8 :: vs 9 :: vs 10 :: vs 11 :: vs 12 :: vs 13 :: vs 14 :: vs 15 :: vs 16 :: vs 17 :: []).toArray, defers := _ }) (fun k => if k = 18 then .bool false else undef) rfl (by kernel_rfl) (fun _ _ _ _ h hb => h.below hb) ?step ?fin
                case step =>
                  intro ix o ho
                  match ix, ho with
                  | 0, ho =>
                    obtain rfl := Option.some.inj ho
                    intro vs W K hB hD hK
                    have HK := Lib.hid hK
                    clear hK hD ho
                    dsimp only
                    go_simp
                    have h := HK.out _ _ (Below.refl _ _) rfl
                    simp only [upd, Nat.reduceEqDiff, reduceIte] at h
                    exact h
                  | 1, ho =>
                    obtain rfl := Option.some.inj ho
                    intro vs W K hB hD hK
                    have HK := Lib.hid hK
                    have e0 : vs 0 = .bool true := dep_of hD 0 (by rfl)
                    clear hK hD ho
                    dsimp only
                    go_simp
                    have h := HK.out _ _ (Below.refl _ _) rfl
                    simp only [upd, Nat.reduceEqDiff, reduceIte, e0] at h
                    exact h
                  | 2, ho =>
                    obtain rfl := Option.some.inj ho
                    intro vs W K hB hD hK
                    have HK := Lib.hid hK
                    have e1 : vs 1 = .bool true := dep_of hD 1 (by rfl)
                    clear hK hD ho
                    dsimp only
                    go_simp
                    have h := HK.out _ _ (Below.refl _ _) rfl
                    simp only [upd, Nat.reduceEqDiff, reduceIte, e1] at h
                    exact h
                  | 3, ho =>
                    obtain rfl := Option.some.inj ho
                    intro vs W K hB hD hK
                    have HK := Lib.hid hK
                    have e1 : vs 1 = .bool true := dep_of hD 1 (by rfl)
                    have e2 : vs 2 = .bool false := dep_of hD 2 (by rfl)
                    clear hK hD ho
                    dsimp only
                    go_simp
                    have h := HK.out _ _ (Below.refl _ _) rfl
                    simp only [upd, Nat.reduceEqDiff, reduceIte, e1, e2] at h
                    exact h
                  | 4, ho =>
                    obtain rfl := Option.some.inj ho
                    intro vs W K hB hD hK
                    have HK := Lib.hid hK
                    have e1 : vs 1 = .bool true := dep_of hD 1 (by rfl)
                    have e3 : vs 3 = .bool true := dep_of hD 3 (by rfl)
                    clear hK hD ho
                    dsimp only
                    go_simp
                    have h := HK.out _ _ (Below.refl _ _) rfl
                    simp only [upd, Nat.reduceEqDiff, reduceIte, e1, e3] at h
                    exact h
                  | 5, ho =>
                    obtain rfl := Option.some.inj ho
                    intro vs W K hB hD hK
                    have HK := Lib.hid hK
                    have e4 : vs 4 = .bool true := dep_of hD 4 (by rfl)
                    clear hK hD ho
                    dsimp only
                    go_simp
                    have h := HK.out _ _ (Below.refl _ _) rfl
                    simp only [upd, Nat.reduceEqDiff, reduceIte, e4] at h
                    exact h
                  | 6, ho =>
                    obtain rfl := Option.some.inj ho
                    intro vs W K hB hD hK
                    have HK := Lib.hid hK
                    have e4 : vs 4 = .bool true := dep_of hD 4 (by rfl)
                    clear hK hD ho
                    dsimp only
                    go_simp
                    have h := HK.out _ _ (Below.refl _ _) rfl
                    simp only [upd, Nat.reduceEqDiff, reduceIte, e4] at h
                    exact h
                  | 7, ho =>
                    obtain rfl := Option.some.inj ho
                    intro vs W K hB hD hK
                    have HK := Lib.hid hK
                    have e1 : vs 1 = .bool true := dep_of hD 1 (by rfl)
                    have e4 : vs 4 = .bool true := dep_of hD 4 (by rfl)
                    clear hK hD ho
                    dsimp only
                    go_simp
                    have h := HK.out _ _ (Below.refl _ _) rfl
                    simp only [upd, Nat.reduceEqDiff, reduceIte, e1, e4] at h
                    exact h
                  | 8, ho =>
                    obtain rfl := Option.some.inj ho
                    intro vs W K hB hD hK
                    have HK := Lib.hid hK
                    have e1 : vs 1 = .bool true := dep_of hD 1 (by rfl)
                    have e7 : vs 7 = .bool true := dep_of hD 7 (by rfl)
                    clear hK hD ho
                    dsimp only
                    go_simp
                    have h := HK.out _ _ (Below.refl _ _) rfl
                    simp only [upd, Nat.reduceEqDiff, reduceIte, e1, e7] at h
                    exact h
                  | 9, ho =>
                    obtain rfl := Option.some.inj ho
                    intro vs W K hB hD hK
                    have HK := Lib.hid hK
                    have e8 : vs 8 = .bool true := dep_of hD 8 (by rfl)
                    clear hK hD ho
                    dsimp only
                    go_simp
                    have h := HK.out _ _ (Below.refl _ _) rfl
                    simp only [upd, Nat.reduceEqDiff, reduceIte, e8] at h
                    exact h
                  | 10, ho =>
                    obtain rfl := Option.some.inj ho
                    intro vs W K hB hD hK
                    have HK := Lib.hid hK
                    have e8 : vs 8 = .bool true := dep_of hD 8 (by rfl)
                    clear hK hD ho
                    dsimp only
                    go_simp
                    have h := HK.out _ _ (Below.refl _ _) rfl
                    simp only [upd, Nat.reduceEqDiff, reduceIte, e8] at h
                    exact h
                  | 11, ho =>
                    obtain rfl := Option.some.inj ho
                    intro vs W K hB hD hK
                    have HK := Lib.hid hK
                    have e8 : vs 8 = .bool true := dep_of hD 8 (by rfl)
                    clear hK hD ho
                    dsimp only
                    go_simp
                    have h := HK.out _ _ (Below.refl _ _) rfl
                    simp only [upd, Nat.reduceEqDiff, reduceIte, e8] at h
                    exact h
                  | 12, ho =>
                    obtain rfl := Option.some.inj ho
                    intro vs W K hB hD hK
                    have HK := Lib.hid hK
                    have e8 : vs 8 = .bool true := dep_of hD 8 (by rfl)
                    clear hK hD ho
                    dsimp only
                    go_simp
                    have h := HK.out _ _ (Below.refl _ _) rfl
                    simp only [upd, Nat.reduceEqDiff, reduceIte, e8] at h
                    exact h
                  | 13, ho =>
                    obtain rfl := Option.some.inj ho
                    intro vs W K hB hD hK
                    have HK := Lib.hid hK
                    have e8 : vs 8 = .bool true := dep_of hD 8 (by rfl)
                    clear hK hD ho
                    dsimp only
                    go_simp
                    have h := HK.out _ _ (Below.refl _ _) rfl
                    simp only [upd, Nat.reduceEqDiff, reduceIte, e8] at h
                    exact h
                  | 14, ho =>
                    obtain rfl := Option.some.inj ho
                    intro vs W K hB hD hK
                    have HK := Lib.hid hK
                    have e8 : vs 8 = .bool true := dep_of hD 8 (by rfl)
                    clear hK hD ho
                    dsimp only
                    go_simp
                    have h := HK.out _ _ (Below.refl _ _) rfl
                    simp only [upd, Nat.reduceEqDiff, reduceIte, e8] at h
                    exact h
                  | 15, ho =>
                    obtain rfl := Option.some.inj ho
                    intro vs W K hB hD hK
                    have HK := Lib.hid hK
                    have e8 : vs 8 = .bool true := dep_of hD 8 (by rfl)
                    clear hK hD ho
                    dsimp only
                    go_simp
                    have h := HK.out _ _ (Below.refl _ _) rfl
                    simp only [upd, Nat.reduceEqDiff, reduceIte, e8] at h
                    exact h
                  | 16, ho =>
                    obtain rfl := Option.some.inj ho
                    intro vs W K hB hD hK
                    have HK := Lib.hid hK
                    have e1 : vs 1 = .bool true := dep_of hD 1 (by rfl)
                    have e8 : vs 8 = .bool true := dep_of hD 8 (by rfl)
                    clear hK hD ho
                    dsimp only
                    go_simp
                    have h := HK.out _ _ (Below.refl _ _) rfl
                    simp only [upd, Nat.reduceEqDiff, reduceIte, e1, e8] at h
                    exact h
                  | 17, ho =>
                    obtain rfl := Option.some.inj ho
                    intro vs W K hB hD hK
                    have HK := Lib.hid hK
                    have e1 : vs 1 = .bool true := dep_of hD 1 (by rfl)
                    have e16 : vs 16 = .bool true := dep_of hD 16 (by rfl)
                    clear hK hD ho
                    dsimp only
                    go_simp
                    have h := HK.out _ _ (Below.refl _ _) rfl
                    simp only [upd, Nat.reduceEqDiff, reduceIte, e1, e16] at h
                    exact h
                  | 18, ho =>
                    obtain rfl := Option.some.inj ho
                    intro vs W K hB hD hK
                    have HK := Lib.hid hK
                    have e17 : vs 17 = .bool true := dep_of hD 17 (by rfl)
                    clear hK hD ho
                    dsimp only
                    go_simp
                    have h := HK.out _ _ (Below.refl _ _) rfl
                    simp only [upd, Nat.reduceEqDiff, reduceIte, e17] at h
                    exact h
                  | q + 19, ho => exact absurd ho (by simp)
                case fin =>
                  intro vs w13 hB hall
                  have el : vs 18 = .bool true := hall 18 (by decide)
                  have HLn : Hid (Below wr.heap.size wr w13) := HB1.out w13 hB
                  clear hall hB HB1 HG HL
                  rename Hid (Below wr.heap.size wr w13) => HL
                  rw [el]
                  generalize vs 0 = z0
                  generalize vs 1 = z1
                  generalize vs 2 = z2
                  generalize vs 3 = z3
                  generalize vs 4 = z4
                  generalize vs 5 = z5
                  generalize vs 6 = z6
                  generalize vs 7 = z7
                  generalize vs 8 = z8
                  generalize vs 9 = z9
                  generalize vs 10 = z10
                  generalize vs 11 = z11
                  generalize vs 12 = z12
                  generalize vs 13 = z13
                  generalize vs 14 = z14
                  generalize vs 15 = z15
                  generalize vs 16 = z16
                  generalize vs 17 = z17
                  clear vs el
                  go_wp2_with fail
                  go_ret
                  exact HE.out _ (HBT.out.trans (HL.out.mono HBT.out.size))
            · replace HWy := Lib.hid (HWy.out rfl)
              go_wp2_with fail
              have HB1 : Hid (∀ W, Below w11.drew.heap.size w11.drew W → Below wr.heap.size wr W) := fun W h => HL.out.trans (((Below.drew (B := w11.heap.size) (Below.refl _ _)).trans h).mono HL.out.size)
              have HG : Hid (∀ W, Below w11.drew.heap.size w11.drew W → W.cell? ⟨zg, 0, none⟩ = some (.slice a0 n0 c0) ∧ W.cell? ⟨zg, 1, none⟩ = some (.slice a1 n1 c1) ∧ W.cell? ⟨zg, 2, none⟩ = some (.slice a2 n2 c2)) := fun W h => HC.out W (HB1.out W h)
              refine region_stable hmx (RPcft g p LX LY LZ vx vy vz vT a0 a1 a2 n0 n1 n2 c0 c1 c2 false true) (fun vs => { tmps := (_ :: _ :: _ :: _ :: _ :: _ :: _ :: _ :: _ :: _ :: _ :: _ :: _ :: _ :: _ :: _ :: _ :: _ :: _ :: _ :: _ :: _ :: _ :: _ :: _ :: _ :: _ :: _ :: _ :: _ :: _ :: _ :: _ :: _ :: _ :: _ :: _ :: _ :: _ :: _ :: _ :: _ :: _ :: _ :: _ :: _ :: _ :: _ :: _ :: _ :: _ :: _ :: _ :: _ :: _ :: _ :: _ :: _ :: _ :: _ :: _ :: _ :: _ :: _ :: _ :: _ :: _ :: _ :: _ :: _ :: _ :: _ :: _ :: _ :: _ :: _ :: _ :: _ :: _ :: _ :: _ :: _ :: _ :: _ :: _ :: _ :: _ :: _ :: _ :: _ :: _ :: _ :: _ :: _ :: _ :: _ :: _ :: _ :: _ :: _ :: _ :: _ :: _ :: _ :: _ :: _ :: _ :: _ :: _ :: _ :: _ :: _ :: _ :: _ :: vs 0 :: vs 1 :: vs 2 :: vs 3 :: vs 4 :: vs 5 :: vs 6 :: vs 7 :: vs 8 :: vs 9 :: vs 10 :: vs 11 :: vs 12 :: vs 13 :: vs 14 :: vs 15 :: vs 16 :: vs 17 :: vs 18 :: vs 19 :: vs 20 :: vs 21 :: vs 22 :: vs 23 :: _ :: _ :: _ :: _ :: _ :: _ :: _ :: _ :: _ :: _ :: _ :: _ :: _ :: _ :: _ :: _ :: _ :: _ :: []).toArray, defers := _ }) (fun _ => undef) rfl (by kernel_rfl) (fun _ _ _ _ h hb => h.below hb) ?step ?fin
              case step =>
                intro ix o ho
                match ix, ho with
                | 0, ho =>
                  obtain rfl := Option.some.inj ho
                  intro vs W K hB hD hK
                  have HK := Lib.hid hK
                  clear hK hD ho
                  dsimp only
                  go_simp
                  have h := HK.out _ _ (Below.refl _ _) rfl
                  simp only [upd, Nat.reduceEqDiff, reduceIte] at h
                  exact h
                | 1, ho =>
                  obtain rfl := Option.some.inj ho
                  intro vs W K hB hD hK
                  have HK := Lib.hid hK
                  have e0 : vs 0 = .bool false := dep_of hD 0 (by rfl)
                  clear hK hD ho
                  dsimp only
                  go_simp
                  have h := HK.out _ _ (Below.refl _ _) rfl
                  simp only [upd, Nat.reduceEqDiff, reduceIte, e0] at h
                  exact h
                | 2, ho =>
                  obtain rfl := Option.some.inj ho
                  intro vs W K hB hD hK
                  have HK := Lib.hid hK
                  have e1 : vs 1 = .bool false := dep_of hD 1 (by rfl)
                  clear hK hD ho
                  dsimp only
                  go_simp
                  have h := HK.out _ _ (Below.refl _ _) rfl
                  simp only [upd, Nat.reduceEqDiff, reduceIte, e1] at h
                  exact h
                | 3, ho =>
                  obtain rfl := Option.some.inj ho
                  intro vs W K hB hD hK
                  have HK := Lib.hid hK
                  have e1 : vs 1 = .bool false := dep_of hD 1 (by rfl)
                  clear hK hD ho
                  dsimp only
                  go_simp
                  have h := HK.out _ _ (Below.refl _ _) rfl
                  simp only [upd, Nat.reduceEqDiff, reduceIte, e1] at h
                  exact h
                | 4, ho =>
                  obtain rfl := Option.some.inj ho
                  intro vs W K hB hD hK
                  have HK := Lib.hid hK
                  have e1 : vs 1 = .bool false := dep_of hD 1 (by rfl)
                  clear hK hD ho
                  dsimp only
                  go_simp
                  have h := HK.out _ _ (Below.refl _ _) rfl
                  simp only [upd, Nat.reduceEqDiff, reduceIte, e1] at h
                  exact h
                | 5, ho =>
                  obtain rfl := Option.some.inj ho
                  intro vs W K hB hD hK
                  have HK := Lib.hid hK
                  have e1 : vs 1 = .bool false := dep_of hD 1 (by rfl)
                  clear hK hD ho
                  dsimp only
                  go_simp
                  have h := HK.out _ _ (Below.refl _ _) rfl
                  simp only [upd, Nat.reduceEqDiff, reduceIte, e1] at h
                  exact h
                | 6, ho =>
                  obtain rfl := Option.some.inj ho
                  intro vs W K hB hD hK
                  have HK := Lib.hid hK
                  have e1 : vs 1 = .bool false := dep_of hD 1 (by rfl)
                  clear hK hD ho
                  dsimp only
                  go_simp
                  have h := HK.out _ _ (Below.refl _ _) rfl
                  simp only [upd, Nat.reduceEqDiff, reduceIte, e1] at h
                  exact h
                | 7, ho =>
                  obtain rfl := Option.some.inj ho
                  intro vs W K hB hD hK
                  have HK := Lib.hid hK
                  have e1 : vs 1 = .bool false := dep_of hD 1 (by rfl)
                  clear hK hD ho
                  dsimp only
                  go_simp
                  have h := HK.out _ _ (Below.refl _ _) rfl
                  simp only [upd, Nat.reduceEqDiff, reduceIte, e1] at h
                  exact h
                | 8, ho =>
                  obtain rfl := Option.some.inj ho
                  intro vs W K hB hD hK
                  have HK := Lib.hid hK
                  have e1 : vs 1 = .bool false := dep_of hD 1 (by rfl)
                  clear hK hD ho
                  dsimp only
                  go_simp
                  have h := HK.out _ _ (Below.refl _ _) rfl
                  simp only [upd, Nat.reduceEqDiff, reduceIte, e1] at h
                  exact h
                | 9, ho =>
                  obtain rfl := Option.some.inj ho
                  intro vs W K hB hD hK
                  have HK := Lib.hid hK
                  have e1 : vs 1 = .bool false := dep_of hD 1 (by rfl)
                  clear hK hD ho
                  dsimp only
                  go_simp
                  have h := HK.out _ _ (Below.refl _ _) rfl
                  simp only [upd, Nat.reduceEqDiff, reduceIte, e1] at h
                  exact h
                | 10, ho =>
                  obtain rfl := Option.some.inj ho
                  intro vs W K hB hD hK
                  have HK := Lib.hid hK
                  have e1 : vs 1 = .bool false := dep_of hD 1 (by rfl)
                  clear hK hD ho
                  dsimp only
                  go_simp
                  have h := HK.out _ _ (Below.refl _ _) rfl
                  simp only [upd, Nat.reduceEqDiff, reduceIte, e1] at h
                  exact h
                | 11, ho =>
                  obtain rfl := Option.some.inj ho
                  intro vs W K hB hD hK
                  have HK := Lib.hid hK
                  have e10 : vs 10 = .bool false := dep_of hD 10 (by rfl)
                  clear hK hD ho
                  dsimp only
                  go_simp
                  have h := HK.out _ _ (Below.refl _ _) rfl
                  simp only [upd, Nat.reduceEqDiff, reduceIte, e10] at h
                  exact h
                | 12, ho =>
                  obtain rfl := Option.some.inj ho
                  intro vs W K hB hD hK
                  have HK := Lib.hid hK
                  have e11 : vs 11 = .bool false := dep_of hD 11 (by rfl)
                  clear hK hD ho
                  dsimp only
                  go_simp
                  have h := HK.out _ _ (Below.refl _ _) rfl
                  simp only [upd, Nat.reduceEqDiff, reduceIte, e11] at h
                  exact h
                | 13, ho =>
                  obtain rfl := Option.some.inj ho
                  intro vs W K hB hD hK
                  have HK := Lib.hid hK
                  have e11 : vs 11 = .bool false := dep_of hD 11 (by rfl)
                  have e12 : vs 12 = .bool true := dep_of hD 12 (by rfl)
                  clear hK hD ho
                  dsimp only
                  go_simp
                  have h := HK.out _ _ (Below.refl _ _) rfl
                  simp only [upd, Nat.reduceEqDiff, reduceIte, e11, e12] at h
                  exact h
                | 14, ho =>
                  obtain rfl := Option.some.inj ho
                  intro vs W K hB hD hK
                  have HK := Lib.hid hK
                  have e13 : vs 13 = .bool true := dep_of hD 13 (by rfl)
                  obtain ⟨d0, d1, d2⟩ := HG.out W hB
                  clear hK hD ho
                  dsimp only
                  go_simp
                  have h := HK.out _ _ (Below.refl _ _) rfl
                  simp only [upd, Nat.reduceEqDiff, reduceIte, e13] at h
                  exact h
                | 15, ho =>
                  obtain rfl := Option.some.inj ho
                  intro vs W K hB hD hK
                  have HK := Lib.hid hK
                  have e13 : vs 13 = .bool true := dep_of hD 13 (by rfl)
                  clear hK hD ho
                  dsimp only
                  go_simp
                  have h := HK.out _ _ (Below.refl _ _) rfl
                  simp only [upd, Nat.reduceEqDiff, reduceIte, e13] at h
                  exact h
                | 16, ho =>
                  obtain rfl := Option.some.inj ho
                  intro vs W K hB hD hK
                  have HK := Lib.hid hK
                  have e13 : vs 13 = .bool true := dep_of hD 13 (by rfl)
                  clear hK hD ho
                  dsimp only
                  go_simp
                  have h := HK.out _ _ (Below.refl _ _) rfl
                  simp only [upd, Nat.reduceEqDiff, reduceIte, e13] at h
                  exact h
                | 17, ho =>
                  obtain rfl := Option.some.inj ho
                  intro vs W K hB hD hK
                  have HK := Lib.hid hK
                  have e13 : vs 13 = .bool true := dep_of hD 13 (by rfl)
                  clear hK hD ho
                  dsimp only
                  go_simp
                  have h := HK.out _ _ (Below.refl _ _) rfl
                  simp only [upd, Nat.reduceEqDiff, reduceIte, e13] at h
                  exact h
                | 18, ho =>
                  obtain rfl := Option.some.inj ho
                  intro vs W K hB hD hK
                  have HK := Lib.hid hK
                  have e13 : vs 13 = .bool true := dep_of hD 13 (by rfl)
                  clear hK hD ho
                  dsimp only
                  go_simp
                  have h := HK.out _ _ (Below.refl _ _) rfl
                  simp only [upd, Nat.reduceEqDiff, reduceIte, e13] at h
                  exact h
                | 19, ho =>
                  obtain rfl := Option.some.inj ho
                  intro vs W K hB hD hK
                  have HK := Lib.hid hK
                  have e13 : vs 13 = .bool true := dep_of hD 13 (by rfl)
                  have e17 : vs 17 = vy := dep_of hD 17 (by rfl)
                  have e18 : vs 18 = vT := dep_of hD 18 (by rfl)
                  clear hK hD ho
                  dsimp only
                  go_simp
                  refine (HIvy.out W (HB1.out W hB)).mono ?_
                  rintro e W' ⟨u', rfl, hu, hb⟩
                  have h := HK.out _ _ hb hu
                  simp only [upd, Nat.reduceEqDiff, reduceIte, e13, e17, e18] at h
                  exact h
                | 20, ho =>
                  obtain rfl := Option.some.inj ho
                  intro vs W K hB hD hK
                  have HK := Lib.hid hK
                  have e13 : vs 13 = .bool true := dep_of hD 13 (by rfl)
                  have e14 : vs 14 = .agg #[.slice a0 n0 c0, .slice a1 n1 c1, .slice a2 n2 c2] := dep_of hD 14 (by rfl)
                  have e15 : vs 15 = .int .i64 p := dep_of hD 15 (by rfl)
                  have e16 : vs 16 = vy := dep_of hD 16 (by rfl)
                  have i19 := dep_of (R := RPcft g p LX LY LZ vx vy vz vT a0 a1 a2 n0 n1 n2 c0 c1 c2 false true) hD 19 (by rfl)
                  clear hK hD ho
                  dsimp only
                  go_simp
                  refine (HWy.out W (vs 19) (HB1.out W hB) i19).mono ?_
                  rintro e W' ⟨rfl, hb⟩
                  have h := HK.out _ _ hb rfl
                  simp only [upd, Nat.reduceEqDiff, reduceIte, e13, e14, e15, e16] at h
                  exact h
                | 21, ho =>
                  obtain rfl := Option.some.inj ho
                  intro vs W K hB hD hK
                  have HK := Lib.hid hK
                  have e13 : vs 13 = .bool true := dep_of hD 13 (by rfl)
                  have e20 : vs 20 = .bool true := dep_of hD 20 (by rfl)
                  clear hK hD ho
                  dsimp only
                  go_simp
                  have h := HK.out _ _ (Below.refl _ _) rfl
                  simp only [upd, Nat.reduceEqDiff, reduceIte, e13, e20] at h
                  exact h
                | 22, ho =>
                  obtain rfl := Option.some.inj ho
                  intro vs W K hB hD hK
                  have HK := Lib.hid hK
                  have e11 : vs 11 = .bool false := dep_of hD 11 (by rfl)
                  have e13 : vs 13 = .bool true := dep_of hD 13 (by rfl)
                  have e21 : vs 21 = .bool false := dep_of hD 21 (by rfl)
                  clear hK hD ho
                  dsimp only
                  go_simp
                  have h := HK.out _ _ (Below.refl _ _) rfl
                  simp only [upd, Nat.reduceEqDiff, reduceIte, e11, e13, e21] at h
                  exact h
                | 23, ho =>
                  obtain rfl := Option.some.inj ho
                  intro vs W K hB hD hK
                  have HK := Lib.hid hK
                  have e11 : vs 11 = .bool false := dep_of hD 11 (by rfl)
                  have e22 : vs 22 = .bool false := dep_of hD 22 (by rfl)
                  clear hK hD ho
                  dsimp only
                  go_simp
                  have h := HK.out _ _ (Below.refl _ _) rfl
                  simp only [upd, Nat.reduceEqDiff, reduceIte, e11, e22] at h
                  exact h
                | q + 24, ho => exact absurd ho (by simp)
              case fin =>
                intro vs w12 hB hall
                have el : vs 23 = .bool false := hall 23 (by decide)
                have HLn : Hid (Below wr.heap.size wr w12) := HB1.out w12 hB
                clear hall hB HB1 HG HL
                rename Hid (Below wr.heap.size wr w12) => HL
                rw [el]
                generalize vs 0 = m0
                generalize vs 1 = m1
                generalize vs 2 = m2
                generalize vs 3 = m3
                generalize vs 4 = m4
                generalize vs 5 = m5
                generalize vs 6 = m6
                generalize vs 7 = m7
                generalize vs 8 = m8
                generalize vs 9 = m9
                generalize vs 10 = m10
                generalize vs 11 = m11
                generalize vs 12 = m12
                generalize vs 13 = m13
                generalize vs 14 = m14
                generalize vs 15 = m15
                generalize vs 16 = m16
                generalize vs 17 = m17
                generalize vs 18 = m18
                generalize vs 19 = m19
                generalize vs 20 = m20
                generalize vs 21 = m21
                generalize vs 22 = m22
                clear vs el
                go_wp2_with fail
                have HB1 : Hid (∀ W, Below w12.drew.heap.size w12.drew W → Below wr.heap.size wr W) := fun W h => HL.out.trans (((Below.drew (B := w12.heap.size) (Below.refl _ _)).trans h).mono HL.out.size)
                have HG : Hid (∀ W, Below w12.drew.heap.size w12.drew W → W.cell? ⟨zg, 0, none⟩ = some (.slice a0 n0 c0) ∧ W.cell? ⟨zg, 1, none⟩ = some (.slice a1 n1 c1) ∧ W.cell? ⟨zg, 2, none⟩ = some (.slice a2 n2 c2)) := fun W h => HC.out W (HB1.out W h)
                refine region_stable hmx (RPdft g p LX LY LZ vx vy vz vT a0 a1 a2 n0 n1 n2 c0 c1 c2 false true) (fun vs => { tmps := (_ :: _ :: _ :: _ :: _ :: _ :: _ :: _ :: _ :: _ :: _ :: _ :: vs 18 :: _ :: _ :: _ :: _ :: _ :: _ :: _ :: _ :: _ :: _ :: _ :: _ :: _ :: _ :: _ :: _ :: _ :: _ :: _ :: _ :: _ :: _ :: _ :: _ :: _ :: _ :: _ :: _ :: _ :: _ :: _ :: _ :: _ :: _ :: _ :: _ :: _ :: _ :: _ :: _ :: _ :: _ :: _ :: _ :: _ :: _ :: _ :: _ :: _ :: _ :: _ :: _ :: _ :: _ :: _ :: _ :: _ :: _ :: _ :: _ :: _ :: _ :: _ :: _ :: _ :: _ :: _ :: _ :: _ :: _ :: _ :: _ :: _ :: _ :: _ :: _ :: _ :: _ :: _ :: _ :: _ :: _ :: _ :: _ :: _ :: _ :: _ :: _ :: _ :: _ :: _ :: _ :: _ :: _ :: _ :: _ :: _ :: _ :: _ :: _ :: _ :: _ :: _ :: _ :: _ :: _ :: _ :: _ :: _ :: _ :: _ :: _ :: _ :: _ :: _ :: _ :: _ :: _ :: _ :: _ :: _ :: _ :: _ :: _ :: _ :: vs 0 :: vs 1 :: vs 2 :: vs 3 :: vs 4 :: vs 5 :: vs 6 :: vs 7 :: vs 8 :: vs 9 :: vs 10 :: vs 11 :: vs 12 :: vs 13 :: vs 14 :: vs 15 :: vs 16 :: vs 17 :: []).toArray, defers := _ }) (fun k => if k = 18 then .bool false else undef) rfl (by kernel_rfl) (fun _ _ _ _ h hb => h.below hb) ?step ?fin
                case step =>
                  intro ix o ho
                  match ix, ho with
                  | 0, ho =>
                    obtain rfl := Option.some.inj ho
                    intro vs W K hB hD hK
                    have HK := Lib.hid hK
                    clear hK hD ho
                    dsimp only
                    go_simp
                    have h := HK.out _ _ (Below.refl _ _) rfl
                    simp only [upd, Nat.reduceEqDiff, reduceIte] at h
                    exact h
                  | 1, ho =>
                    obtain rfl := Option.some.inj ho
                    intro vs W K hB hD hK
                    have HK := Lib.hid hK
                    have e0 : vs 0 = .bool true := dep_of hD 0 (by rfl)
                    clear hK hD ho
                    dsimp only
                    go_simp
                    have h := HK.out _ _ (Below.refl _ _) rfl
                    simp only [upd, Nat.reduceEqDiff, reduceIte, e0] at h
                    exact h
                  | 2, ho =>
                    obtain rfl := Option.some.inj ho
                    intro vs W K hB hD hK
                    have HK := Lib.hid hK
                    have e1 : vs 1 = .bool true := dep_of hD 1 (by rfl)
                    clear hK hD ho
                    dsimp only
                    go_simp
                    have h := HK.out _ _ (Below.refl _ _) rfl
                    simp only [upd, Nat.reduceEqDiff, reduceIte, e1] at h
                    exact h
                  | 3, ho =>
                    obtain rfl := Option.some.inj ho
                    intro vs W K hB hD hK
                    have HK := Lib.hid hK
                    have e1 : vs 1 = .bool true := dep_of hD 1 (by rfl)
                    have e2 : vs 2 = .bool false := dep_of hD 2 (by rfl)
                    clear hK hD ho
                    dsimp only
                    go_simp
                    have h := HK.out _ _ (Below.refl _ _) rfl
                    simp only [upd, Nat.reduceEqDiff, reduceIte, e1, e2] at h
                    exact h
                  | 4, ho =>
                    obtain rfl := Option.some.inj ho
                    intro vs W K hB hD hK
                    have HK := Lib.hid hK
                    have e1 : vs 1 = .bool true := dep_of hD 1 (by rfl)
                    have e3 : vs 3 = .bool true := dep_of hD 3 (by rfl)
                    clear hK hD ho
                    dsimp only
                    go_simp
                    have h := HK.out _ _ (Below.refl _ _) rfl
                    simp only [upd, Nat.reduceEqDiff, reduceIte, e1, e3] at h
                    exact h
                  | 5, ho =>
                    obtain rfl := Option.some.inj ho
                    intro vs W K hB hD hK
                    have HK := Lib.hid hK
                    have e4 : vs 4 = .bool true := dep_of hD 4 (by rfl)
                    clear hK hD ho
                    dsimp only
                    go_simp
                    have h := HK.out _ _ (Below.refl _ _) rfl
                    simp only [upd, Nat.reduceEqDiff, reduceIte, e4] at h
                    exact h
                  | 6, ho =>
                    obtain rfl := Option.some.inj ho
                    intro vs W K hB hD hK
                    have HK := Lib.hid hK
                    have e4 : vs 4 = .bool true := dep_of hD 4 (by rfl)
                    clear hK hD ho
                    dsimp only
                    go_simp
                    have h := HK.out _ _ (Below.refl _ _) rfl
                    simp only [upd, Nat.reduceEqDiff, reduceIte, e4] at h
                    exact h
                  | 7, ho =>
                    obtain rfl := Option.some.inj ho
                    intro vs W K hB hD hK
                    have HK := Lib.hid hK
                    have e1 : vs 1 = .bool true := dep_of hD 1 (by rfl)
                    have e4 : vs 4 = .bool true := dep_of hD 4 (by rfl)
                    clear hK hD ho
                    dsimp only
                    go_simp
                    have h := HK.out _ _ (Below.refl _ _) rfl
                    simp only [upd, Nat.reduceEqDiff, reduceIte, e1, e4] at h
                    exact h
                  | 8, ho =>
                    obtain rfl := Option.some.inj ho
                    intro vs W K hB hD hK
                    have HK := Lib.hid hK
                    have e1 : vs 1 = .bool true := dep_of hD 1 (by rfl)
                    have e7 : vs 7 = .bool true := dep_of hD 7 (by rfl)
                    clear hK hD ho
                    dsimp only
                    go_simp
                    have h := HK.out _ _ (Below.refl _ _) rfl
                    simp only [upd, Nat.reduceEqDiff, reduceIte, e1, e7] at h
                    exact h
                  | 9, ho =>
                    obtain rfl := Option.some.inj ho
                    intro vs W K hB hD hK
                    have HK := Lib.hid hK
                    have e8 : vs 8 = .bool true := dep_of hD 8 (by rfl)
                    clear hK hD ho
                    dsimp only
                    go_simp
                    have h := HK.out _ _ (Below.refl _ _) rfl
                    simp only [upd, Nat.reduceEqDiff, reduceIte, e8] at h
                    exact h
                  | 10, ho =>
                    obtain rfl := Option.some.inj ho
                    intro vs W K hB hD hK
                    have HK := Lib.hid hK
                    have e8 : vs 8 = .bool true := dep_of hD 8 (by rfl)
                    clear hK hD ho
                    dsimp only
                    go_simp
                    have h := HK.out _ _ (Below.refl _ _) rfl
                    simp only [upd, Nat.reduceEqDiff, reduceIte, e8] at h
                    exact h
                  | 11, ho =>
                    obtain rfl := Option.some.inj ho
                    intro vs W K hB hD hK
                    have HK := Lib.hid hK
                    have e8 : vs 8 = .bool true := dep_of hD 8 (by rfl)
                    clear hK hD ho
                    dsimp only
                    go_simp
                    have h := HK.out _ _ (Below.refl _ _) rfl
                    simp only [upd, Nat.reduceEqDiff, reduceIte, e8] at h
                    exact h
                  | 12, ho =>
                    obtain rfl := Option.some.inj ho
                    intro vs W K hB hD hK
                    have HK := Lib.hid hK
                    have e8 : vs 8 = .bool true := dep_of hD 8 (by rfl)
                    clear hK hD ho
                    dsimp only
                    go_simp
                    have h := HK.out _ _ (Below.refl _ _) rfl
                    simp only [upd, Nat.reduceEqDiff, reduceIte, e8] at h
                    exact h
                  | 13, ho =>
                    obtain rfl := Option.some.inj ho
                    intro vs W K hB hD hK
                    have HK := Lib.hid hK
                    have e8 : vs 8 = .bool true := dep_of hD 8 (by rfl)
                    clear hK hD ho
                    dsimp only
                    go_simp
                    have h := HK.out _ _ (Below.refl _ _) rfl
                    simp only [upd, Nat.reduceEqDiff, reduceIte, e8] at h
                    exact h
                  | 14, ho =>
                    obtain rfl := Option.some.inj ho
                    intro vs W K hB hD hK
                    have HK := Lib.hid hK
                    have e8 : vs 8 = .bool true := dep_of hD 8 (by rfl)
                    clear hK hD ho
                    dsimp only
                    go_simp
                    have h := HK.out _ _ (Below.refl _ _) rfl
                    simp only [upd, Nat.reduceEqDiff, reduceIte, e8] at h
                    exact h
                  | 15, ho =>
                    obtain rfl := Option.some.inj ho
                    intro vs W K hB hD hK
                    have HK := Lib.hid hK
                    have e8 : vs 8 = .bool true := dep_of hD 8 (by rfl)
                    clear hK hD ho
                    dsimp only
                    go_simp
                    have h := HK.out _ _ (Below.refl _ _) rfl
                    simp only [upd, Nat.reduceEqDiff, reduceIte, e8] at h
                    exact h
                  | 16, ho =>
                    obtain rfl := Option.some.inj ho
                    intro vs W K hB hD hK
                    have HK := Lib.hid hK
                    have e1 : vs 1 = .bool true := dep_of hD 1 (by rfl)
                    have e8 : vs 8 = .bool true := dep_of hD 8 (by rfl)
                    clear hK hD ho
                    dsimp only
                    go_simp
                    have h := HK.out _ _ (Below.refl _ _) rfl
                    simp only [upd, Nat.reduceEqDiff, reduceIte, e1, e8] at h
                    exact h
                  | 17, ho =>
                    obtain rfl := Option.some.inj ho
                    intro vs W K hB hD hK
                    have HK := Lib.hid hK
                    have e1 : vs 1 = .bool true := dep_of hD 1 (by rfl)
                    have e16 : vs 16 = .bool true := dep_of hD 16 (by rfl)
                    clear hK hD ho
                    dsimp only
                    go_simp
                    have h := HK.out _ _ (Below.refl _ _) rfl
                    simp only [upd, Nat.reduceEqDiff, reduceIte, e1, e16] at h
                    exact h
                  | 18, ho =>
                    obtain rfl := Option.some.inj ho
                    intro vs W K hB hD hK
                    have HK := Lib.hid hK
                    have e17 : vs 17 = .bool true := dep_of hD 17 (by rfl)
                    clear hK hD ho
                    dsimp only
                    go_simp
                    have h := HK.out _ _ (Below.refl _ _) rfl
                    simp only [upd, Nat.reduceEqDiff, reduceIte, e17] at h
                    exact h
                  | q + 19, ho => exact absurd ho (by simp)
                case fin =>
                  intro vs w13 hB hall
                  have el : vs 18 = .bool true := hall 18 (by decide)
                  have HLn : Hid (Below wr.heap.size wr w13) := HB1.out w13 hB
                  clear hall hB HB1 HG HL
                  rename Hid (Below wr.heap.size wr w13) => HL
                  rw [el]
                  generalize vs 0 = z0
                  generalize vs 1 = z1
                  generalize vs 2 = z2
                  generalize vs 3 = z3
                  generalize vs 4 = z4
                  generalize vs 5 = z5
                  generalize vs 6 = z6
                  generalize vs 7 = z7
                  generalize vs 8 = z8
                  generalize vs 9 = z9
                  generalize vs 10 = z10
                  generalize vs 11 = z11
                  generalize vs 12 = z12
                  generalize vs 13 = z13
                  generalize vs 14 = z14
                  generalize vs 15 = z15
                  generalize vs 16 = z16
                  generalize vs 17 = z17
                  clear vs el
                  go_wp2_with fail
                  go_ret
                  exact HE.out _ (HBT.out.trans (HL.out.mono HBT.out.size))
          · cases oy
            · replace HWx := Lib.hid (HWx.out rfl)
              go_wp2_with fail
              have HB1 : Hid (∀ W, Below w11.drew.heap.size w11.drew W → Below wr.heap.size wr W) := fun W h => HL.out.trans (((Below.drew (B := w11.heap.size) (Below.refl _ _)).trans h).mono HL.out.size)
              have HG : Hid (∀ W, Below w11.drew.heap.size w11.drew W → W.cell? ⟨zg, 0, none⟩ = some (.slice a0 n0 c0) ∧ W.cell? ⟨zg, 1, none⟩ = some (.slice a1 n1 c1) ∧ W.cell? ⟨zg, 2, none⟩ = some (.slice a2 n2 c2)) := fun W h => HC.out W (HB1.out W h)
              refine region_stable hmx (RPctf g p LX LY LZ vx vy vz vT a0 a1 a2 n0 n1 n2 c0 c1 c2 true false) (fun vs => { tmps := (_ :: _ :: _ :: _ :: _ :: _ :: _ :: _ :: _ :: _ :: _ :: _ :: _ :: _ :: _ :: _ :: _ :: _ :: _ :: _ :: _ :: _ :: _ :: _ :: _ :: _ :: _ :: _ :: _ :: _ :: _ :: _ :: _ :: _ :: _ :: _ :: _ :: _ :: _ :: _ :: _ :: _ :: _ :: _ :: _ :: _ :: _ :: _ :: _ :: _ :: _ :: _ :: _ :: _ :: _ :: _ :: _ :: _ :: _ :: _ :: _ :: _ :: _ :: _ :: _ :: _ :: _ :: _ :: _ :: _ :: _ :: _ :: _ :: _ :: _ :: _ :: _ :: _ :: _ :: _ :: _ :: _ :: _ :: _ :: _ :: _ :: _ :: _ :: _ :: _ :: _ :: _ :: _ :: _ :: _ :: _ :: _ :: _ :: _ :: _ :: _ :: _ :: _ :: _ :: _ :: _ :: _ :: _ :: _ :: _ :: _ :: _ :: _ :: _ :: vs 0 :: vs 1 :: vs 2 :: vs 3 :: vs 4 :: vs 5 :: vs 6 :: vs 7 :: vs 8 :: vs 9 :: vs 10 :: vs 11 :: vs 12 :: vs 13 :: vs 14 :: vs 15 :: vs 16 :: vs 17 :: vs 18 :: vs 19 :: vs 20 :: vs 21 :: vs 22 :: vs 23 :: _ :: _ :: _ :: _ :: _ :: _ :: _ :: _ :: _ :: _ :: _ :: _ :: _ :: _ :: _ :: _ :: _ :: _ :: []).toArray, defers := _ }) (fun _ => undef) rfl (by kernel_rfl) (fun _ _ _ _ h hb => h.below hb) ?step ?fin
              case step =>
                intro ix o ho
                match ix, ho with
                | 0, ho =>
                  obtain rfl := Option.some.inj ho
                  intro vs W K hB hD hK
                  have HK := Lib.hid hK
                  clear hK hD ho
                  dsimp only
                  go_simp
                  have h := HK.out _ _ (Below.refl _ _) rfl
                  simp only [upd, Nat.reduceEqDiff, reduceIte] at h
                  exact h
                | 1, ho =>
                  obtain rfl := Option.some.inj ho
                  intro vs W K hB hD hK
                  have HK := Lib.hid hK
                  have e0 : vs 0 = .bool true := dep_of hD 0 (by rfl)
                  clear hK hD ho
                  dsimp only
                  go_simp
                  have h := HK.out _ _ (Below.refl _ _) rfl
                  simp only [upd, Nat.reduceEqDiff, reduceIte, e0] at h
                  exact h
                | 2, ho =>
                  obtain rfl := Option.some.inj ho
                  intro vs W K hB hD hK
                  have HK := Lib.hid hK
                  have e1 : vs 1 = .bool true := dep_of hD 1 (by rfl)
                  obtain ⟨d0, d1, d2⟩ := HG.out W hB
                  clear hK hD ho
                  dsimp only
                  go_simp
                  have h := HK.out _ _ (Below.refl _ _) rfl
                  simp only [upd, Nat.reduceEqDiff, reduceIte, e1] at h
                  exact h
                | 3, ho =>
                  obtain rfl := Option.some.inj ho
                  intro vs W K hB hD hK
                  have HK := Lib.hid hK
                  have e1 : vs 1 = .bool true := dep_of hD 1 (by rfl)
                  clear hK hD ho
                  dsimp only
                  go_simp
                  have h := HK.out _ _ (Below.refl _ _) rfl
                  simp only [upd, Nat.reduceEqDiff, reduceIte, e1] at h
                  exact h
                | 4, ho =>
                  obtain rfl := Option.some.inj ho
                  intro vs W K hB hD hK
                  have HK := Lib.hid hK
                  have e1 : vs 1 = .bool true := dep_of hD 1 (by rfl)
                  clear hK hD ho
                  dsimp only
                  go_simp
                  have h := HK.out _ _ (Below.refl _ _) rfl
                  simp only [upd, Nat.reduceEqDiff, reduceIte, e1] at h
                  exact h
                | 5, ho =>
                  obtain rfl := Option.some.inj ho
                  intro vs W K hB hD hK
                  have HK := Lib.hid hK
                  have e1 : vs 1 = .bool true := dep_of hD 1 (by rfl)
                  clear hK hD ho
                  dsimp only
                  go_simp
                  have h := HK.out _ _ (Below.refl _ _) rfl
                  simp only [upd, Nat.reduceEqDiff, reduceIte, e1] at h
                  exact h
                | 6, ho =>
                  obtain rfl := Option.some.inj ho
                  intro vs W K hB hD hK
                  have HK := Lib.hid hK
                  have e1 : vs 1 = .bool true := dep_of hD 1 (by rfl)
                  clear hK hD ho
                  dsimp only
                  go_simp
                  have h := HK.out _ _ (Below.refl _ _) rfl
                  simp only [upd, Nat.reduceEqDiff, reduceIte, e1] at h
                  exact h
                | 7, ho =>
                  obtain rfl := Option.some.inj ho
                  intro vs W K hB hD hK
                  have HK := Lib.hid hK
                  have e1 : vs 1 = .bool true := dep_of hD 1 (by rfl)
                  have e5 : vs 5 = vx := dep_of hD 5 (by rfl)
                  have e6 : vs 6 = vT := dep_of hD 6 (by rfl)
                  clear hK hD ho
                  dsimp only
                  go_simp
                  refine (HIvx.out W (HB1.out W hB)).mono ?_
                  rintro e W' ⟨u', rfl, hu, hb⟩
                  have h := HK.out _ _ hb hu
                  simp only [upd, Nat.reduceEqDiff, reduceIte, e1, e5, e6] at h
                  exact h
                | 8, ho =>
                  obtain rfl := Option.some.inj ho
                  intro vs W K hB hD hK
                  have HK := Lib.hid hK
                  have e1 : vs 1 = .bool true := dep_of hD 1 (by rfl)
                  have e2 : vs 2 = .agg #[.slice a0 n0 c0, .slice a1 n1 c1, .slice a2 n2 c2] := dep_of hD 2 (by rfl)
                  have e3 : vs 3 = .int .i64 p := dep_of hD 3 (by rfl)
                  have e4 : vs 4 = vx := dep_of hD 4 (by rfl)
                  have i7 := dep_of (R := RPctf g p LX LY LZ vx vy vz vT a0 a1 a2 n0 n1 n2 c0 c1 c2 true false) hD 7 (by rfl)
                  clear hK hD ho
                  dsimp only
                  go_simp
                  refine (HWx.out W (vs 7) (HB1.out W hB) i7).mono ?_
                  rintro e W' ⟨rfl, hb⟩
                  have h := HK.out _ _ hb rfl
                  simp only [upd, Nat.reduceEqDiff, reduceIte, e1, e2, e3, e4] at h
                  exact h
                | 9, ho =>
                  obtain rfl := Option.some.inj ho
                  intro vs W K hB hD hK
                  have HK := Lib.hid hK
                  have e1 : vs 1 = .bool true := dep_of hD 1 (by rfl)
                  have e8 : vs 8 = .bool true := dep_of hD 8 (by rfl)
                  clear hK hD ho
                  dsimp only
                  go_simp
                  have h := HK.out _ _ (Below.refl _ _) rfl
                  simp only [upd, Nat.reduceEqDiff, reduceIte, e1, e8] at h
                  exact h
                | 10, ho =>
                  obtain rfl := Option.some.inj ho
                  intro vs W K hB hD hK
                  have HK := Lib.hid hK
                  have e1 : vs 1 = .bool true := dep_of hD 1 (by rfl)
                  have e9 : vs 9 = .bool false := dep_of hD 9 (by rfl)
                  clear hK hD ho
                  dsimp only
                  go_simp
                  have h := HK.out _ _ (Below.refl _ _) rfl
                  simp only [upd, Nat.reduceEqDiff, reduceIte, e1, e9] at h
                  exact h
                | 11, ho =>
                  obtain rfl := Option.some.inj ho
                  intro vs W K hB hD hK
                  have HK := Lib.hid hK
                  have e10 : vs 10 = .bool false := dep_of hD 10 (by rfl)
                  clear hK hD ho
                  dsimp only
                  go_simp
                  have h := HK.out _ _ (Below.refl _ _) rfl
                  simp only [upd, Nat.reduceEqDiff, reduceIte, e10] at h
                  exact h
                | 12, ho =>
                  obtain rfl := Option.some.inj ho
                  intro vs W K hB hD hK
                  have HK := Lib.hid hK
                  have e11 : vs 11 = .bool false := dep_of hD 11 (by rfl)
                  clear hK hD ho
                  dsimp only
                  go_simp
                  have h := HK.out _ _ (Below.refl _ _) rfl
                  simp only [upd, Nat.reduceEqDiff, reduceIte, e11] at h
                  exact h
                | 13, ho =>
                  obtain rfl := Option.some.inj ho
                  intro vs W K hB hD hK
                  have HK := Lib.hid hK
                  have e11 : vs 11 = .bool false := dep_of hD 11 (by rfl)
                  have e12 : vs 12 = .bool false := dep_of hD 12 (by rfl)
                  clear hK hD ho
                  dsimp only
                  go_simp
                  have h := HK.out _ _ (Below.refl _ _) rfl
                  simp only [upd, Nat.reduceEqDiff, reduceIte, e11, e12] at h
                  exact h
                | 14, ho =>
                  obtain rfl := Option.some.inj ho
                  intro vs W K hB hD hK
                  have HK := Lib.hid hK
                  have e13 : vs 13 = .bool false := dep_of hD 13 (by rfl)
                  clear hK hD ho
                  dsimp only
                  go_simp
                  have h := HK.out _ _ (Below.refl _ _) rfl
                  simp only [upd, Nat.reduceEqDiff, reduceIte, e13] at h
                  exact h
                | 15, ho =>
                  obtain rfl := Option.some.inj ho
                  intro vs W K hB hD hK
                  have HK := Lib.hid hK
                  have e13 : vs 13 = .bool false := dep_of hD 13 (by rfl)
                  clear hK hD ho
                  dsimp only
                  go_simp
                  have h := HK.out _ _ (Below.refl _ _) rfl
                  simp only [upd, Nat.reduceEqDiff, reduceIte, e13] at h
                  exact h
                | 16, ho =>
                  obtain rfl := Option.some.inj ho
                  intro vs W K hB hD hK
                  have HK := Lib.hid hK
                  have e13 : vs 13 = .bool false := dep_of hD 13 (by rfl)
                  clear hK hD ho
                  dsimp only
                  go_simp
                  have h := HK.out _ _ (Below.refl _ _) rfl
                  simp only [upd, Nat.reduceEqDiff, reduceIte, e13] at h
                  exact h
                | 17, ho =>
                  obtain rfl := Option.some.inj ho
                  intro vs W K hB hD hK
                  have HK := Lib.hid hK
                  have e13 : vs 13 = .bool false := dep_of hD 13 (by rfl)
                  clear hK hD ho
                  dsimp only
                  go_simp
                  have h := HK.out _ _ (Below.refl _ _) rfl
                  simp only [upd, Nat.reduceEqDiff, reduceIte, e13] at h
                  exact h
                | 18, ho =>
                  obtain rfl := Option.some.inj ho
                  intro vs W K hB hD hK
                  have HK := Lib.hid hK
                  have e13 : vs 13 = .bool false := dep_of hD 13 (by rfl)
                  clear hK hD ho
                  dsimp only
                  go_simp
                  have h := HK.out _ _ (Below.refl _ _) rfl
                  simp only [upd, Nat.reduceEqDiff, reduceIte, e13] at h
                  exact h
                | 19, ho =>
                  obtain rfl := Option.some.inj ho
                  intro vs W K hB hD hK
                  have HK := Lib.hid hK
                  have e13 : vs 13 = .bool false := dep_of hD 13 (by rfl)
                  clear hK hD ho
                  dsimp only
                  go_simp
                  have h := HK.out _ _ (Below.refl _ _) rfl
                  simp only [upd, Nat.reduceEqDiff, reduceIte, e13] at h
                  exact h
                | 20, ho =>
                  obtain rfl := Option.some.inj ho
                  intro vs W K hB hD hK
                  have HK := Lib.hid hK
                  have e13 : vs 13 = .bool false := dep_of hD 13 (by rfl)
                  clear hK hD ho
                  dsimp only
                  go_simp
                  have h := HK.out _ _ (Below.refl _ _) rfl
                  simp only [upd, Nat.reduceEqDiff, reduceIte, e13] at h
                  exact h
                | 21, ho =>
                  obtain rfl := Option.some.inj ho
                  intro vs W K hB hD hK
                  have HK := Lib.hid hK
                  have e13 : vs 13 = .bool false := dep_of hD 13 (by rfl)
                  clear hK hD ho
                  dsimp only
                  go_simp
                  have h := HK.out _ _ (Below.refl _ _) rfl
                  simp only [upd, Nat.reduceEqDiff, reduceIte, e13] at h
                  exact h
                | 22, ho =>
                  obtain rfl := Option.some.inj ho
                  intro vs W K hB hD hK
                  have HK := Lib.hid hK
                  have e11 : vs 11 = .bool false := dep_of hD 11 (by rfl)
                  have e13 : vs 13 = .bool false := dep_of hD 13 (by rfl)
                  clear hK hD ho
                  dsimp only
                  go_simp
                  have h := HK.out _ _ (Below.refl _ _) rfl
                  simp only [upd, Nat.reduceEqDiff, reduceIte, e11, e13] at h
                  exact h
                | 23, ho =>
                  obtain rfl := Option.some.inj ho
                  intro vs W K hB hD hK
                  have HK := Lib.hid hK
                  have e11 : vs 11 = .bool false := dep_of hD 11 (by rfl)
                  have e22 : vs 22 = .bool false := dep_of hD 22 (by rfl)
                  clear hK hD ho
                  dsimp only
                  go_simp
                  have h := HK.out _ _ (Below.refl _ _) rfl
                  simp only [upd, Nat.reduceEqDiff, reduceIte, e11, e22] at h
                  exact h
                | q + 24, ho => exact absurd ho (by simp)
              case fin =>
                intro vs w12 hB hall
                have el : vs 23 = .bool false := hall 23 (by decide)
                have HLn : Hid (Below wr.heap.size wr w12) := HB1.out w12 hB
                clear hall hB HB1 HG HL
                rename Hid (Below wr.heap.size wr w12) => HL
                rw [el]
                generalize vs 0 = m0
                generalize vs 1 = m1
                generalize vs 2 = m2
                generalize vs 3 = m3
                generalize vs 4 = m4
                generalize vs 5 = m5
                generalize vs 6 = m6
                generalize vs 7 = m7
                generalize vs 8 = m8
                generalize vs 9 = m9
                generalize vs 10 = m10
                generalize vs 11 = m11
                generalize vs 12 = m12
                generalize vs 13 = m13
                generalize vs 14 = m14
                generalize vs 15 = m15
                generalize vs 16 = m16
                generalize vs 17 = m17
                generalize vs 18 = m18
                generalize vs 19 = m19
                generalize vs 20 = m20
                generalize vs 21 = m21
                generalize vs 22 = m22
                clear vs el
                go_wp2_with fail
                have HB1 : Hid (∀ W, Below w12.drew.heap.size w12.drew W → Below wr.heap.size wr W) := fun W h => HL.out.trans (((Below.drew (B := w12.heap.size) (Below.refl _ _)).trans h).mono HL.out.size)
                have HG : Hid (∀ W, Below w12.drew.heap.size w12.drew W → W.cell? ⟨zg, 0, none⟩ = some (.slice a0 n0 c0) ∧ W.cell? ⟨zg, 1, none⟩ = some (.slice a1 n1 c1) ∧ W.cell? ⟨zg, 2, none⟩ = some (.slice a2 n2 c2)) := fun W h => HC.out W (HB1.out W h)
                refine region_stable hmx (RPdtf g p LX LY LZ vx vy vz vT a0 a1 a2 n0 n1 n2 c0 c1 c2 true false) (fun vs => { tmps := (_ :: _ :: _ :: _ :: _ :: _ :: _ :: _ :: _ :: _ :: _ :: _ :: vs 18 :: _ :: _ :: _ :: _ :: _ :: _ :: _ :: _ :: _ :: _ :: _ :: _ :: _ :: _ :: _ :: _ :: _ :: _ :: _ :: _ :: _ :: _ :: _ :: _ :: _ :: _ :: _ :: _ :: _ :: _ :: _ :: _ :: _ :: _ :: _ :: _ :: _ :: _ :: _ :: _ :: _ :: _ :: _ :: _ :: _ :: _ :: _ :: _ :: _ :: _ :: _ :: _ :: _ :: _ :: _ :: _ :: _ :: _ :: _ :: _ :: _ :: _ :: _ :: _ :: _ :: _ :: _ :: _ :: _ :: _ :: _ :: _ :: _ :: _ :: _ :: _ :: _ :: _ :: _ :: _ :: _ :: _ :: _ :: _ :: _ :: _ :: _ :: _ :: _ :: _ :: _ :: _ :: _ :: _ :: _ :: _ :: _ :: _ :: _ :: _ :: _ :: _ :: _ :: _ :: _ :: _ :: _ :: _ :: _ :: _ :: _ :: _ :: _ :: _ :: _ :: _ :: _ :: _ :: _ :: _ :: _ :: _ :: _ :: _ :: _ :: vs 0 :: vs 1 :: vs 2 :: vs 3 :: vs 4 :: vs 5 :: vs 6 :: vs 7 :: vs 8 :: vs 9 :: vs 10 :: vs 11 :: vs 12 :: vs 13 :: vs 14 :: vs 15 :: vs 16 :: vs 17 :: []).toArray, defers := _ }) (fun k => if k = 18 then .bool false else undef) rfl (by kernel_rfl) (fun _ _ _ _ h hb => h.below hb) ?step ?fin
                case step =>
                  intro ix o ho
                  match ix, ho with
                  | 0, ho =>
                    obtain rfl := Option.some.inj ho
                    intro vs W K hB hD hK
                    have HK := Lib.hid hK
                    clear hK hD ho
                    dsimp only
                    go_simp
                    have h := HK.out _ _ (Below.refl _ _) rfl
                    simp only [upd, Nat.reduceEqDiff, reduceIte] at h
                    exact h
                  | 1, ho =>
                    obtain rfl := Option.some.inj ho
                    intro vs W K hB hD hK
                    have HK := Lib.hid hK
                    have e0 : vs 0 = .bool true := dep_of hD 0 (by rfl)
                    clear hK hD ho
                    dsimp only
                    go_simp
                    have h := HK.out _ _ (Below.refl _ _) rfl
                    simp only [upd, Nat.reduceEqDiff, reduceIte, e0] at h
                    exact h
                  | 2, ho =>
                    obtain rfl := Option.some.inj ho
                    intro vs W K hB hD hK
                    have HK := Lib.hid hK
                    have e1 : vs 1 = .bool true := dep_of hD 1 (by rfl)
                    clear hK hD ho
                    dsimp only
                    go_simp
                    have h := HK.out _ _ (Below.refl _ _) rfl
                    simp only [upd, Nat.reduceEqDiff, reduceIte, e1] at h
                    exact h
                  | 3, ho =>
                    obtain rfl := Option.some.inj ho
                    intro vs W K hB hD hK
                    have HK := Lib.hid hK
                    have e1 : vs 1 = .bool true := dep_of hD 1 (by rfl)
                    have e2 : vs 2 = .bool true := dep_of hD 2 (by rfl)
                    clear hK hD ho
                    dsimp only
                    go_simp
                    have h := HK.out _ _ (Below.refl _ _) rfl
                    simp only [upd, Nat.reduceEqDiff, reduceIte, e1, e2] at h
                    exact h
                  | 4, ho =>
                    obtain rfl := Option.some.inj ho
                    intro vs W K hB hD hK
                    have HK := Lib.hid hK
                    have e1 : vs 1 = .bool true := dep_of hD 1 (by rfl)
                    have e3 : vs 3 = .bool false := dep_of hD 3 (by rfl)
                    clear hK hD ho
                    dsimp only
                    go_simp
                    have h := HK.out _ _ (Below.refl _ _) rfl
                    simp only [upd, Nat.reduceEqDiff, reduceIte, e1, e3] at h
                    exact h
                  | 5, ho =>
                    obtain rfl := Option.some.inj ho
                    intro vs W K hB hD hK
                    have HK := Lib.hid hK
                    have e4 : vs 4 = .bool false := dep_of hD 4 (by rfl)
                    clear hK hD ho
                    dsimp only
                    go_simp
                    have h := HK.out _ _ (Below.refl _ _) rfl
                    simp only [upd, Nat.reduceEqDiff, reduceIte, e4] at h
                    exact h
                  | 6, ho =>
                    obtain rfl := Option.some.inj ho
                    intro vs W K hB hD hK
                    have HK := Lib.hid hK
                    have e4 : vs 4 = .bool false := dep_of hD 4 (by rfl)
                    have e5 : vs 5 = .bool false := dep_of hD 5 (by rfl)
                    clear hK hD ho
                    dsimp only
                    go_simp
                    have h := HK.out _ _ (Below.refl _ _) rfl
                    simp only [upd, Nat.reduceEqDiff, reduceIte, e4, e5] at h
                    exact h
                  | 7, ho =>
                    obtain rfl := Option.some.inj ho
                    intro vs W K hB hD hK
                    have HK := Lib.hid hK
                    have e1 : vs 1 = .bool true := dep_of hD 1 (by rfl)
                    have e4 : vs 4 = .bool false := dep_of hD 4 (by rfl)
                    have e6 : vs 6 = .bool true := dep_of hD 6 (by rfl)
                    clear hK hD ho
                    dsimp only
                    go_simp
                    have h := HK.out _ _ (Below.refl _ _) rfl
                    simp only [upd, Nat.reduceEqDiff, reduceIte, e1, e4, e6] at h
                    exact h
                  | 8, ho =>
                    obtain rfl := Option.some.inj ho
                    intro vs W K hB hD hK
                    have HK := Lib.hid hK
                    have e1 : vs 1 = .bool true := dep_of hD 1 (by rfl)
                    have e7 : vs 7 = .bool true := dep_of hD 7 (by rfl)
                    clear hK hD ho
                    dsimp only
                    go_simp
                    have h := HK.out _ _ (Below.refl _ _) rfl
                    simp only [upd, Nat.reduceEqDiff, reduceIte, e1, e7] at h
                    exact h
                  | 9, ho =>
                    obtain rfl := Option.some.inj ho
                    intro vs W K hB hD hK
                    have HK := Lib.hid hK
                    have e8 : vs 8 = .bool true := dep_of hD 8 (by rfl)
                    clear hK hD ho
                    dsimp only
                    go_simp
                    have h := HK.out _ _ (Below.refl _ _) rfl
                    simp only [upd, Nat.reduceEqDiff, reduceIte, e8] at h
                    exact h
                  | 10, ho =>
                    obtain rfl := Option.some.inj ho
                    intro vs W K hB hD hK
                    have HK := Lib.hid hK
                    have e8 : vs 8 = .bool true := dep_of hD 8 (by rfl)
                    clear hK hD ho
                    dsimp only
                    go_simp
                    have h := HK.out _ _ (Below.refl _ _) rfl
                    simp only [upd, Nat.reduceEqDiff, reduceIte, e8] at h
                    exact h
                  | 11, ho =>
                    obtain rfl := Option.some.inj ho
                    intro vs W K hB hD hK
                    have HK := Lib.hid hK
                    have e8 : vs 8 = .bool true := dep_of hD 8 (by rfl)
                    clear hK hD ho
                    dsimp only
                    go_simp
                    have h := HK.out _ _ (Below.refl _ _) rfl
                    simp only [upd, Nat.reduceEqDiff, reduceIte, e8] at h
                    exact h
                  | 12, ho =>
                    obtain rfl := Option.some.inj ho
                    intro vs W K hB hD hK
                    have HK := Lib.hid hK
                    have e8 : vs 8 = .bool true := dep_of hD 8 (by rfl)
                    clear hK hD ho
                    dsimp only
                    go_simp
                    have h := HK.out _ _ (Below.refl _ _) rfl
                    simp only [upd, Nat.reduceEqDiff, reduceIte, e8] at h
                    exact h
                  | 13, ho =>
                    obtain rfl := Option.some.inj ho
                    intro vs W K hB hD hK
                    have HK := Lib.hid hK
                    have e8 : vs 8 = .bool true := dep_of hD 8 (by rfl)
                    clear hK hD ho
                    dsimp only
                    go_simp
                    have h := HK.out _ _ (Below.refl _ _) rfl
                    simp only [upd, Nat.reduceEqDiff, reduceIte, e8] at h
                    exact h
                  | 14, ho =>
                    obtain rfl := Option.some.inj ho
                    intro vs W K hB hD hK
                    have HK := Lib.hid hK
                    have e8 : vs 8 = .bool true := dep_of hD 8 (by rfl)
                    clear hK hD ho
                    dsimp only
                    go_simp
                    have h := HK.out _ _ (Below.refl _ _) rfl
                    simp only [upd, Nat.reduceEqDiff, reduceIte, e8] at h
                    exact h
                  | 15, ho =>
                    obtain rfl := Option.some.inj ho
                    intro vs W K hB hD hK
                    have HK := Lib.hid hK
                    have e8 : vs 8 = .bool true := dep_of hD 8 (by rfl)
                    clear hK hD ho
                    dsimp only
                    go_simp
                    have h := HK.out _ _ (Below.refl _ _) rfl
                    simp only [upd, Nat.reduceEqDiff, reduceIte, e8] at h
                    exact h
                  | 16, ho =>
                    obtain rfl := Option.some.inj ho
                    intro vs W K hB hD hK
                    have HK := Lib.hid hK
                    have e1 : vs 1 = .bool true := dep_of hD 1 (by rfl)
                    have e8 : vs 8 = .bool true := dep_of hD 8 (by rfl)
                    clear hK hD ho
                    dsimp only
                    go_simp
                    have h := HK.out _ _ (Below.refl _ _) rfl
                    simp only [upd, Nat.reduceEqDiff, reduceIte, e1, e8] at h
                    exact h
                  | 17, ho =>
                    obtain rfl := Option.some.inj ho
                    intro vs W K hB hD hK
                    have HK := Lib.hid hK
                    have e1 : vs 1 = .bool true := dep_of hD 1 (by rfl)
                    have e16 : vs 16 = .bool true := dep_of hD 16 (by rfl)
                    clear hK hD ho
                    dsimp only
                    go_simp
                    have h := HK.out _ _ (Below.refl _ _) rfl
                    simp only [upd, Nat.reduceEqDiff, reduceIte, e1, e16] at h
                    exact h
                  | 18, ho =>
                    obtain rfl := Option.some.inj ho
                    intro vs W K hB hD hK
                    have HK := Lib.hid hK
                    have e17 : vs 17 = .bool true := dep_of hD 17 (by rfl)
                    clear hK hD ho
                    dsimp only
                    go_simp
                    have h := HK.out _ _ (Below.refl _ _) rfl
                    simp only [upd, Nat.reduceEqDiff, reduceIte, e17] at h
                    exact h
                  | q + 19, ho => exact absurd ho (by simp)
                case fin =>
                  intro vs w13 hB hall
                  have el : vs 18 = .bool true := hall 18 (by decide)
                  have HLn : Hid (Below wr.heap.size wr w13) := HB1.out w13 hB
                  clear hall hB HB1 HG HL
                  rename Hid (Below wr.heap.size wr w13) => HL
                  rw [el]
                  generalize vs 0 = z0
                  generalize vs 1 = z1
                  generalize vs 2 = z2
                  generalize vs 3 = z3
                  generalize vs 4 = z4
                  generalize vs 5 = z5
                  generalize vs 6 = z6
                  generalize vs 7 = z7
                  generalize vs 8 = z8
                  generalize vs 9 = z9
                  generalize vs 10 = z10
                  generalize vs 11 = z11
                  generalize vs 12 = z12
                  generalize vs 13 = z13
                  generalize vs 14 = z14
                  generalize vs 15 = z15
                  generalize vs 16 = z16
                  generalize vs 17 = z17
                  clear vs el
                  go_wp2_with fail
                  go_ret
                  exact HE.out _ (HBT.out.trans (HL.out.mono HBT.out.size))
            · replace HWx := Lib.hid (HWx.out rfl)
              replace HWy := Lib.hid (HWy.out rfl)
              replace HWz := Lib.hid (HWz.out ⟨rfl, rfl⟩)
              go_wp2_with fail
              have HB1 : Hid (∀ W, Below w11.drew.heap.size w11.drew W → Below wr.heap.size wr W) := fun W h => HL.out.trans (((Below.drew (B := w11.heap.size) (Below.refl _ _)).trans h).mono HL.out.size)
              have HG : Hid (∀ W, Below w11.drew.heap.size w11.drew W → W.cell? ⟨zg, 0, none⟩ = some (.slice a0 n0 c0) ∧ W.cell? ⟨zg, 1, none⟩ = some (.slice a1 n1 c1) ∧ W.cell? ⟨zg, 2, none⟩ = some (.slice a2 n2 c2)) := fun W h => HC.out W (HB1.out W h)
              refine region_stable hmx (RPctt g p LX LY LZ vx vy vz vT a0 a1 a2 n0 n1 n2 c0 c1 c2 true true) (fun vs => { tmps := (_ :: _ :: _ :: _ :: _ :: _ :: _ :: _ :: _ :: _ :: _ :: _ :: _ :: _ :: _ :: _ :: _ :: _ :: _ :: _ :: _ :: _ :: _ :: _ :: _ :: _ :: _ :: _ :: _ :: _ :: _ :: _ :: _ :: _ :: _ :: _ :: _ :: _ :: _ :: _ :: _ :: _ :: _ :: _ :: _ :: _ :: _ :: _ :: _ :: _ :: _ :: _ :: _ :: _ :: _ :: _ :: _ :: _ :: _ :: _ :: _ :: _ :: _ :: _ :: _ :: _ :: _ :: _ :: _ :: _ :: _ :: _ :: _ :: _ :: _ :: _ :: _ :: _ :: _ :: _ :: _ :: _ :: _ :: _ :: _ :: _ :: _ :: _ :: _ :: _ :: _ :: _ :: _ :: _ :: _ :: _ :: _ :: _ :: _ :: _ :: _ :: _ :: _ :: _ :: _ :: _ :: _ :: _ :: _ :: _ :: _ :: _ :: _ :: _ :: vs 0 :: vs 1 :: vs 2 :: vs 3 :: vs 4 :: vs 5 :: vs 6 :: vs 7 :: vs 8 :: vs 9 :: vs 10 :: vs 11 :: vs 12 :: vs 13 :: vs 14 :: vs 15 :: vs 16 :: vs 17 :: vs 18 :: vs 19 :: vs 20 :: vs 21 :: vs 22 :: vs 23 :: _ :: _ :: _ :: _ :: _ :: _ :: _ :: _ :: _ :: _ :: _ :: _ :: _ :: _ :: _ :: _ :: _ :: _ :: []).toArray, defers := _ }) (fun _ => undef) rfl (by kernel_rfl) (fun _ _ _ _ h hb => h.below hb) ?step ?fin
              case step =>
                intro ix o ho
                match ix, ho with
                | 0, ho =>
                  obtain rfl := Option.some.inj ho
                  intro vs W K hB hD hK
                  have HK := Lib.hid hK
                  clear hK hD ho
                  dsimp only
                  go_simp
                  have h := HK.out _ _ (Below.refl _ _) rfl
                  simp only [upd, Nat.reduceEqDiff, reduceIte] at h
                  exact h
                | 1, ho =>
                  obtain rfl := Option.some.inj ho
                  intro vs W K hB hD hK
                  have HK := Lib.hid hK
                  have e0 : vs 0 = .bool true := dep_of hD 0 (by rfl)
                  clear hK hD ho
                  dsimp only
                  go_simp
                  have h := HK.out _ _ (Below.refl _ _) rfl
                  simp only [upd, Nat.reduceEqDiff, reduceIte, e0] at h
                  exact h
                | 2, ho =>
                  obtain rfl := Option.some.inj ho
                  intro vs W K hB hD hK
                  have HK := Lib.hid hK
                  have e1 : vs 1 = .bool true := dep_of hD 1 (by rfl)
                  obtain ⟨d0, d1, d2⟩ := HG.out W hB
                  clear hK hD ho
                  dsimp only
                  go_simp
                  have h := HK.out _ _ (Below.refl _ _) rfl
                  simp only [upd, Nat.reduceEqDiff, reduceIte, e1] at h
                  exact h
                | 3, ho =>
                  obtain rfl := Option.some.inj ho
                  intro vs W K hB hD hK
                  have HK := Lib.hid hK
                  have e1 : vs 1 = .bool true := dep_of hD 1 (by rfl)
                  clear hK hD ho
                  dsimp only
                  go_simp
                  have h := HK.out _ _ (Below.refl _ _) rfl
                  simp only [upd, Nat.reduceEqDiff, reduceIte, e1] at h
                  exact h
                | 4, ho =>
                  obtain rfl := Option.some.inj ho
                  intro vs W K hB hD hK
                  have HK := Lib.hid hK
                  have e1 : vs 1 = .bool true := dep_of hD 1 (by rfl)
                  clear hK hD ho
                  dsimp only
                  go_simp
                  have h := HK.out _ _ (Below.refl _ _) rfl
                  simp only [upd, Nat.reduceEqDiff, reduceIte, e1] at h
                  exact h
                | 5, ho =>
                  obtain rfl := Option.some.inj ho
                  intro vs W K hB hD hK
                  have HK := Lib.hid hK
                  have e1 : vs 1 = .bool true := dep_of hD 1 (by rfl)
                  clear hK hD ho
                  dsimp only
                  go_simp
                  have h := HK.out _ _ (Below.refl _ _) rfl
                  simp only [upd, Nat.reduceEqDiff, reduceIte, e1] at h
                  exact h
                | 6, ho =>
                  obtain rfl := Option.some.inj ho
                  intro vs W K hB hD hK
                  have HK := Lib.hid hK
                  have e1 : vs 1 = .bool true := dep_of hD 1 (by rfl)
                  clear hK hD ho
                  dsimp only
                  go_simp
                  have h := HK.out _ _ (Below.refl _ _) rfl
                  simp only [upd, Nat.reduceEqDiff, reduceIte, e1] at h
                  exact h
                | 7, ho =>
                  obtain rfl := Option.some.inj ho
                  intro vs W K hB hD hK
                  have HK := Lib.hid hK
                  have e1 : vs 1 = .bool true := dep_of hD 1 (by rfl)
                  have e5 : vs 5 = vx := dep_of hD 5 (by rfl)
                  have e6 : vs 6 = vT := dep_of hD 6 (by rfl)
                  clear hK hD ho
                  dsimp only
                  go_simp
                  refine (HIvx.out W (HB1.out W hB)).mono ?_
                  rintro e W' ⟨u', rfl, hu, hb⟩
                  have h := HK.out _ _ hb hu
                  simp only [upd, Nat.reduceEqDiff, reduceIte, e1, e5, e6] at h
                  exact h
                | 8, ho =>
                  obtain rfl := Option.some.inj ho
                  intro vs W K hB hD hK
                  have HK := Lib.hid hK
                  have e1 : vs 1 = .bool true := dep_of hD 1 (by rfl)
                  have e2 : vs 2 = .agg #[.slice a0 n0 c0, .slice a1 n1 c1, .slice a2 n2 c2] := dep_of hD 2 (by rfl)
                  have e3 : vs 3 = .int .i64 p := dep_of hD 3 (by rfl)
                  have e4 : vs 4 = vx := dep_of hD 4 (by rfl)
                  have i7 := dep_of (R := RPctt g p LX LY LZ vx vy vz vT a0 a1 a2 n0 n1 n2 c0 c1 c2 true true) hD 7 (by rfl)
                  clear hK hD ho
                  dsimp only
                  go_simp
                  refine (HWx.out W (vs 7) (HB1.out W hB) i7).mono ?_
                  rintro e W' ⟨rfl, hb⟩
                  have h := HK.out _ _ hb rfl
                  simp only [upd, Nat.reduceEqDiff, reduceIte, e1, e2, e3, e4] at h
                  exact h
                | 9, ho =>
                  obtain rfl := Option.some.inj ho
                  intro vs W K hB hD hK
                  have HK := Lib.hid hK
                  have e1 : vs 1 = .bool true := dep_of hD 1 (by rfl)
                  have e8 : vs 8 = .bool true := dep_of hD 8 (by rfl)
                  clear hK hD ho
                  dsimp only
                  go_simp
                  have h := HK.out _ _ (Below.refl _ _) rfl
                  simp only [upd, Nat.reduceEqDiff, reduceIte, e1, e8] at h
                  exact h
                | 10, ho =>
                  obtain rfl := Option.some.inj ho
                  intro vs W K hB hD hK
                  have HK := Lib.hid hK
                  have e1 : vs 1 = .bool true := dep_of hD 1 (by rfl)
                  have e9 : vs 9 = .bool false := dep_of hD 9 (by rfl)
                  clear hK hD ho
                  dsimp only
                  go_simp
                  have h := HK.out _ _ (Below.refl _ _) rfl
                  simp only [upd, Nat.reduceEqDiff, reduceIte, e1, e9] at h
                  exact h
                | 11, ho =>
                  obtain rfl := Option.some.inj ho
                  intro vs W K hB hD hK
                  have HK := Lib.hid hK
                  have e10 : vs 10 = .bool false := dep_of hD 10 (by rfl)
                  clear hK hD ho
                  dsimp only
                  go_simp
                  have h := HK.out _ _ (Below.refl _ _) rfl
                  simp only [upd, Nat.reduceEqDiff, reduceIte, e10] at h
                  exact h
                | 12, ho =>
                  obtain rfl := Option.some.inj ho
                  intro vs W K hB hD hK
                  have HK := Lib.hid hK
                  have e11 : vs 11 = .bool false := dep_of hD 11 (by rfl)
                  clear hK hD ho
                  dsimp only
                  go_simp
                  have h := HK.out _ _ (Below.refl _ _) rfl
                  simp only [upd, Nat.reduceEqDiff, reduceIte, e11] at h
                  exact h
                | 13, ho =>
                  obtain rfl := Option.some.inj ho
                  intro vs W K hB hD hK
                  have HK := Lib.hid hK
                  have e11 : vs 11 = .bool false := dep_of hD 11 (by rfl)
                  have e12 : vs 12 = .bool true := dep_of hD 12 (by rfl)
                  clear hK hD ho
                  dsimp only
                  go_simp
                  have h := HK.out _ _ (Below.refl _ _) rfl
                  simp only [upd, Nat.reduceEqDiff, reduceIte, e11, e12] at h
                  exact h
                | 14, ho =>
                  obtain rfl := Option.some.inj ho
                  intro vs W K hB hD hK
                  have HK := Lib.hid hK
                  have e13 : vs 13 = .bool true := dep_of hD 13 (by rfl)
                  obtain ⟨d0, d1, d2⟩ := HG.out W hB
                  clear hK hD ho
                  dsimp only
                  go_simp
                  have h := HK.out _ _ (Below.refl _ _) rfl
                  simp only [upd, Nat.reduceEqDiff, reduceIte, e13] at h
                  exact h
                | 15, ho =>
                  obtain rfl := Option.some.inj ho
                  intro vs W K hB hD hK
                  have HK := Lib.hid hK
                  have e13 : vs 13 = .bool true := dep_of hD 13 (by rfl)
                  clear hK hD ho
                  dsimp only
                  go_simp
                  have h := HK.out _ _ (Below.refl _ _) rfl
                  simp only [upd, Nat.reduceEqDiff, reduceIte, e13] at h
                  exact h
                | 16, ho =>
                  obtain rfl := Option.some.inj ho
                  intro vs W K hB hD hK
                  have HK := Lib.hid hK
                  have e13 : vs 13 = .bool true := dep_of hD 13 (by rfl)
                  clear hK hD ho
                  dsimp only
                  go_simp
                  have h := HK.out _ _ (Below.refl _ _) rfl
                  simp only [upd, Nat.reduceEqDiff, reduceIte, e13] at h
                  exact h
                | 17, ho =>
                  obtain rfl := Option.some.inj ho
                  intro vs W K hB hD hK
                  have HK := Lib.hid hK
                  have e13 : vs 13 = .bool true := dep_of hD 13 (by rfl)
                  clear hK hD ho
                  dsimp only
                  go_simp
                  have h := HK.out _ _ (Below.refl _ _) rfl
                  simp only [upd, Nat.reduceEqDiff, reduceIte, e13] at h
                  exact h
                | 18, ho =>
                  obtain rfl := Option.some.inj ho
                  intro vs W K hB hD hK
                  have HK := Lib.hid hK
                  have e13 : vs 13 = .bool true := dep_of hD 13 (by rfl)
                  clear hK hD ho
                  dsimp only
                  go_simp
                  have h := HK.out _ _ (Below.refl _ _) rfl
                  simp only [upd, Nat.reduceEqDiff, reduceIte, e13] at h
                  exact h
                | 19, ho =>
                  obtain rfl := Option.some.inj ho
                  intro vs W K hB hD hK
                  have HK := Lib.hid hK
                  have e13 : vs 13 = .bool true := dep_of hD 13 (by rfl)
                  have e17 : vs 17 = vy := dep_of hD 17 (by rfl)
                  have e18 : vs 18 = vT := dep_of hD 18 (by rfl)
                  clear hK hD ho
                  dsimp only
                  go_simp
                  refine (HIvy.out W (HB1.out W hB)).mono ?_
                  rintro e W' ⟨u', rfl, hu, hb⟩
                  have h := HK.out _ _ hb hu
                  simp only [upd, Nat.reduceEqDiff, reduceIte, e13, e17, e18] at h
                  exact h
                | 20, ho =>
                  obtain rfl := Option.some.inj ho
                  intro vs W K hB hD hK
                  have HK := Lib.hid hK
                  have e13 : vs 13 = .bool true := dep_of hD 13 (by rfl)
                  have e14 : vs 14 = .agg #[.slice a0 n0 c0, .slice a1 n1 c1, .slice a2 n2 c2] := dep_of hD 14 (by rfl)
                  have e15 : vs 15 = .int .i64 p := dep_of hD 15 (by rfl)
                  have e16 : vs 16 = vy := dep_of hD 16 (by rfl)
                  have i19 := dep_of (R := RPctt g p LX LY LZ vx vy vz vT a0 a1 a2 n0 n1 n2 c0 c1 c2 true true) hD 19 (by rfl)
                  clear hK hD ho
                  dsimp only
                  go_simp
                  refine (HWy.out W (vs 19) (HB1.out W hB) i19).mono ?_
                  rintro e W' ⟨rfl, hb⟩
                  have h := HK.out _ _ hb rfl
                  simp only [upd, Nat.reduceEqDiff, reduceIte, e13, e14, e15, e16] at h
                  exact h
                | 21, ho =>
                  obtain rfl := Option.some.inj ho
                  intro vs W K hB hD hK
                  have HK := Lib.hid hK
                  have e13 : vs 13 = .bool true := dep_of hD 13 (by rfl)
                  have e20 : vs 20 = .bool true := dep_of hD 20 (by rfl)
                  clear hK hD ho
                  dsimp only
                  go_simp
                  have h := HK.out _ _ (Below.refl _ _) rfl
                  simp only [upd, Nat.reduceEqDiff, reduceIte, e13, e20] at h
                  exact h
                | 22, ho =>
                  obtain rfl := Option.some.inj ho
                  intro vs W K hB hD hK
                  have HK := Lib.hid hK
                  have e11 : vs 11 = .bool false := dep_of hD 11 (by rfl)
                  have e13 : vs 13 = .bool true := dep_of hD 13 (by rfl)
                  have e21 : vs 21 = .bool false := dep_of hD 21 (by rfl)
                  clear hK hD ho
                  dsimp only
                  go_simp
                  have h := HK.out _ _ (Below.refl _ _) rfl
                  simp only [upd, Nat.reduceEqDiff, reduceIte, e11, e13, e21] at h
                  exact h
                | 23, ho =>
                  obtain rfl := Option.some.inj ho
                  intro vs W K hB hD hK
                  have HK := Lib.hid hK
                  have e11 : vs 11 = .bool false := dep_of hD 11 (by rfl)
                  have e22 : vs 22 = .bool false := dep_of hD 22 (by rfl)
                  clear hK hD ho
                  dsimp only
                  go_simp
                  have h := HK.out _ _ (Below.refl _ _) rfl
                  simp only [upd, Nat.reduceEqDiff, reduceIte, e11, e22] at h
                  exact h
                | q + 24, ho => exact absurd ho (by simp)
              case fin =>
                intro vs w12 hB hall
                have el : vs 23 = .bool false := hall 23 (by decide)
                have HLn : Hid (Below wr.heap.size wr w12) := HB1.out w12 hB
                clear hall hB HB1 HG HL
                rename Hid (Below wr.heap.size wr w12) => HL
                rw [el]
                generalize vs 0 = m0
                generalize vs 1 = m1
                generalize vs 2 = m2
                generalize vs 3 = m3
                generalize vs 4 = m4
                generalize vs 5 = m5
                generalize vs 6 = m6
                generalize vs 7 = m7
                generalize vs 8 = m8
                generalize vs 9 = m9
                generalize vs 10 = m10
                generalize vs 11 = m11
                generalize vs 12 = m12
                generalize vs 13 = m13
                generalize vs 14 = m14
                generalize vs 15 = m15
                generalize vs 16 = m16
                generalize vs 17 = m17
                generalize vs 18 = m18
                generalize vs 19 = m19
                generalize vs 20 = m20
                generalize vs 21 = m21
                generalize vs 22 = m22
                clear vs el
                go_wp2_with fail
                have HB1 : Hid (∀ W, Below w12.drew.heap.size w12.drew W → Below wr.heap.size wr W) := fun W h => HL.out.trans (((Below.drew (B := w12.heap.size) (Below.refl _ _)).trans h).mono HL.out.size)
                have HG : Hid (∀ W, Below w12.drew.heap.size w12.drew W → W.cell? ⟨zg, 0, none⟩ = some (.slice a0 n0 c0) ∧ W.cell? ⟨zg, 1, none⟩ = some (.slice a1 n1 c1) ∧ W.cell? ⟨zg, 2, none⟩ = some (.slice a2 n2 c2)) := fun W h => HC.out W (HB1.out W h)
                refine region_stable hmx (RPdtt g p LX LY LZ vx vy vz vT a0 a1 a2 n0 n1 n2 c0 c1 c2 true true) (fun vs => { tmps := (_ :: _ :: _ :: _ :: _ :: _ :: _ :: _ :: _ :: _ :: _ :: _ :: vs 18 :: _ :: _ :: _ :: _ :: _ :: _ :: _ :: _ :: _ :: _ :: _ :: _ :: _ :: _ :: _ :: _ :: _ :: _ :: _ :: _ :: _ :: _ :: _ :: _ :: _ :: _ :: _ :: _ :: _ :: _ :: _ :: _ :: _ :: _ :: _ :: _ :: _ :: _ :: _ :: _ :: _ :: _ :: _ :: _ :: _ :: _ :: _ :: _ :: _ :: _ :: _ :: _ :: _ :: _ :: _ :: _ :: _ :: _ :: _ :: _ :: _ :: _ :: _ :: _ :: _ :: _ :: _ :: _ :: _ :: _ :: _ :: _ :: _ :: _ :: _ :: _ :: _ :: _ :: _ :: _ :: _ :: _ :: _ :: _ :: _ :: _ :: _ :: _ :: _ :: _ :: _ :: _ :: _ :: _ :: _ :: _ :: _ :: _ :: _ :: _ :: _ :: _ :: _ :: _ :: _ :: _ :: _ :: _ :: _ :: _ :: _ :: _ :: _ :: _ :: _ :: _ :: _ :: _ :: _ :: _ :: _ :: _ :: _ :: _ :: _ :: vs 0 :: vs 1 :: vs 2 :: vs 3 :: vs 4 :: vs 5 :: vs 6 :: vs 7 :: vs 8 :: vs 9 :: vs 10 :: vs 11 :: vs 12 :: vs 13 :: vs 14 :: vs 15 :: vs 16 :: vs 17 :: []).toArray, defers := _ }) (fun k => if k = 18 then .bool false else undef) rfl (by kernel_rfl) (fun _ _ _ _ h hb => h.below hb) ?step ?fin
                case step =>
                  intro ix o ho
                  match ix, ho with
                  | 0, ho =>
                    obtain rfl := Option.some.inj ho
                    intro vs W K hB hD hK
                    have HK := Lib.hid hK
                    clear hK hD ho
                    dsimp only
                    go_simp
                    have h := HK.out _ _ (Below.refl _ _) rfl
                    simp only [upd, Nat.reduceEqDiff, reduceIte] at h
                    exact h
                  | 1, ho =>
                    obtain rfl := Option.some.inj ho
                    intro vs W K hB hD hK
                    have HK := Lib.hid hK
                    have e0 : vs 0 = .bool true := dep_of hD 0 (by rfl)
                    clear hK hD ho
                    dsimp only
                    go_simp
                    have h := HK.out _ _ (Below.refl _ _) rfl
                    simp only [upd, Nat.reduceEqDiff, reduceIte, e0] at h
                    exact h
                  | 2, ho =>
                    obtain rfl := Option.some.inj ho
                    intro vs W K hB hD hK
                    have HK := Lib.hid hK
                    have e1 : vs 1 = .bool true := dep_of hD 1 (by rfl)
                    clear hK hD ho
                    dsimp only
                    go_simp
                    have h := HK.out _ _ (Below.refl _ _) rfl
                    simp only [upd, Nat.reduceEqDiff, reduceIte, e1] at h
                    exact h
                  | 3, ho =>
                    obtain rfl := Option.some.inj ho
                    intro vs W K hB hD hK
                    have HK := Lib.hid hK
                    have e1 : vs 1 = .bool true := dep_of hD 1 (by rfl)
                    have e2 : vs 2 = .bool true := dep_of hD 2 (by rfl)
                    clear hK hD ho
                    dsimp only
                    go_simp
                    have h := HK.out _ _ (Below.refl _ _) rfl
                    simp only [upd, Nat.reduceEqDiff, reduceIte, e1, e2] at h
                    exact h
                  | 4, ho =>
                    obtain rfl := Option.some.inj ho
                    intro vs W K hB hD hK
                    have HK := Lib.hid hK
                    have e1 : vs 1 = .bool true := dep_of hD 1 (by rfl)
                    have e3 : vs 3 = .bool false := dep_of hD 3 (by rfl)
                    clear hK hD ho
                    dsimp only
                    go_simp
                    have h := HK.out _ _ (Below.refl _ _) rfl
                    simp only [upd, Nat.reduceEqDiff, reduceIte, e1, e3] at h
                    exact h
                  | 5, ho =>
                    obtain rfl := Option.some.inj ho
                    intro vs W K hB hD hK
                    have HK := Lib.hid hK
                    have e4 : vs 4 = .bool false := dep_of hD 4 (by rfl)
                    clear hK hD ho
                    dsimp only
                    go_simp
                    have h := HK.out _ _ (Below.refl _ _) rfl
                    simp only [upd, Nat.reduceEqDiff, reduceIte, e4] at h
                    exact h
                  | 6, ho =>
                    obtain rfl := Option.some.inj ho
                    intro vs W K hB hD hK
                    have HK := Lib.hid hK
                    have e4 : vs 4 = .bool false := dep_of hD 4 (by rfl)
                    have e5 : vs 5 = .bool true := dep_of hD 5 (by rfl)
                    clear hK hD ho
                    dsimp only
                    go_simp
                    have h := HK.out _ _ (Below.refl _ _) rfl
                    simp only [upd, Nat.reduceEqDiff, reduceIte, e4, e5] at h
                    exact h
                  | 7, ho =>
                    obtain rfl := Option.some.inj ho
                    intro vs W K hB hD hK
                    have HK := Lib.hid hK
                    have e1 : vs 1 = .bool true := dep_of hD 1 (by rfl)
                    have e4 : vs 4 = .bool false := dep_of hD 4 (by rfl)
                    have e6 : vs 6 = .bool false := dep_of hD 6 (by rfl)
                    clear hK hD ho
                    dsimp only
                    go_simp
                    have h := HK.out _ _ (Below.refl _ _) rfl
                    simp only [upd, Nat.reduceEqDiff, reduceIte, e1, e4, e6] at h
                    exact h
                  | 8, ho =>
                    obtain rfl := Option.some.inj ho
                    intro vs W K hB hD hK
                    have HK := Lib.hid hK
                    have e1 : vs 1 = .bool true := dep_of hD 1 (by rfl)
                    have e7 : vs 7 = .bool false := dep_of hD 7 (by rfl)
                    clear hK hD ho
                    dsimp only
                    go_simp
                    have h := HK.out _ _ (Below.refl _ _) rfl
                    simp only [upd, Nat.reduceEqDiff, reduceIte, e1, e7] at h
                    exact h
                  | 9, ho =>
                    obtain rfl := Option.some.inj ho
                    intro vs W K hB hD hK
                    have HK := Lib.hid hK
                    have e8 : vs 8 = .bool false := dep_of hD 8 (by rfl)
                    obtain ⟨d0, d1, d2⟩ := HG.out W hB
                    clear hK hD ho
                    dsimp only
                    go_simp
                    have h := HK.out _ _ (Below.refl _ _) rfl
                    simp only [upd, Nat.reduceEqDiff, reduceIte, e8] at h
                    exact h
                  | 10, ho =>
                    obtain rfl := Option.some.inj ho
                    intro vs W K hB hD hK
                    have HK := Lib.hid hK
                    have e8 : vs 8 = .bool false := dep_of hD 8 (by rfl)
                    clear hK hD ho
                    dsimp only
                    go_simp
                    have h := HK.out _ _ (Below.refl _ _) rfl
                    simp only [upd, Nat.reduceEqDiff, reduceIte, e8] at h
                    exact h
                  | 11, ho =>
                    obtain rfl := Option.some.inj ho
                    intro vs W K hB hD hK
                    have HK := Lib.hid hK
                    have e8 : vs 8 = .bool false := dep_of hD 8 (by rfl)
                    clear hK hD ho
                    dsimp only
                    go_simp
                    have h := HK.out _ _ (Below.refl _ _) rfl
                    simp only [upd, Nat.reduceEqDiff, reduceIte, e8] at h
                    exact h
                  | 12, ho =>
                    obtain rfl := Option.some.inj ho
                    intro vs W K hB hD hK
                    have HK := Lib.hid hK
                    have e8 : vs 8 = .bool false := dep_of hD 8 (by rfl)
                    clear hK hD ho
                    dsimp only
                    go_simp
                    have h := HK.out _ _ (Below.refl _ _) rfl
                    simp only [upd, Nat.reduceEqDiff, reduceIte, e8] at h
                    exact h
                  | 13, ho =>
                    obtain rfl := Option.some.inj ho
                    intro vs W K hB hD hK
                    have HK := Lib.hid hK
                    have e8 : vs 8 = .bool false := dep_of hD 8 (by rfl)
                    clear hK hD ho
                    dsimp only
                    go_simp
                    have h := HK.out _ _ (Below.refl _ _) rfl
                    simp only [upd, Nat.reduceEqDiff, reduceIte, e8] at h
                    exact h
                  | 14, ho =>
                    obtain rfl := Option.some.inj ho
                    intro vs W K hB hD hK
                    have HK := Lib.hid hK
                    have e8 : vs 8 = .bool false := dep_of hD 8 (by rfl)
                    have e12 : vs 12 = vz := dep_of hD 12 (by rfl)
                    have e13 : vs 13 = vT := dep_of hD 13 (by rfl)
                    clear hK hD ho
                    dsimp only
                    go_simp
                    refine (HIvz.out W (HB1.out W hB)).mono ?_
                    rintro e W' ⟨u', rfl, hu, hb⟩
                    have h := HK.out _ _ hb hu
                    simp only [upd, Nat.reduceEqDiff, reduceIte, e8, e12, e13] at h
                    exact h
                  | 15, ho =>
                    obtain rfl := Option.some.inj ho
                    intro vs W K hB hD hK
                    have HK := Lib.hid hK
                    have e8 : vs 8 = .bool false := dep_of hD 8 (by rfl)
                    have e9 : vs 9 = .agg #[.slice a0 n0 c0, .slice a1 n1 c1, .slice a2 n2 c2] := dep_of hD 9 (by rfl)
                    have e10 : vs 10 = .int .i64 p := dep_of hD 10 (by rfl)
                    have e11 : vs 11 = vz := dep_of hD 11 (by rfl)
                    have i14 := dep_of (R := RPdtt g p LX LY LZ vx vy vz vT a0 a1 a2 n0 n1 n2 c0 c1 c2 true true) hD 14 (by rfl)
                    clear hK hD ho
                    dsimp only
                    go_simp
                    refine (HWz.out W (vs 14) (HB1.out W hB) i14).mono ?_
                    rintro e W' ⟨rfl, hb⟩
                    have h := HK.out _ _ hb rfl
                    simp only [upd, Nat.reduceEqDiff, reduceIte, e8, e9, e10, e11] at h
                    exact h
                  | 16, ho =>
                    obtain rfl := Option.some.inj ho
                    intro vs W K hB hD hK
                    have HK := Lib.hid hK
                    have e1 : vs 1 = .bool true := dep_of hD 1 (by rfl)
                    have e8 : vs 8 = .bool false := dep_of hD 8 (by rfl)
                    have e15 : vs 15 = .bool true := dep_of hD 15 (by rfl)
                    clear hK hD ho
                    dsimp only
                    go_simp
                    have h := HK.out _ _ (Below.refl _ _) rfl
                    simp only [upd, Nat.reduceEqDiff, reduceIte, e1, e8, e15] at h
                    exact h
                  | 17, ho =>
                    obtain rfl := Option.some.inj ho
                    intro vs W K hB hD hK
                    have HK := Lib.hid hK
                    have e1 : vs 1 = .bool true := dep_of hD 1 (by rfl)
                    have e16 : vs 16 = .bool true := dep_of hD 16 (by rfl)
                    clear hK hD ho
                    dsimp only
                    go_simp
                    have h := HK.out _ _ (Below.refl _ _) rfl
                    simp only [upd, Nat.reduceEqDiff, reduceIte, e1, e16] at h
                    exact h
                  | 18, ho =>
                    obtain rfl := Option.some.inj ho
                    intro vs W K hB hD hK
                    have HK := Lib.hid hK
                    have e17 : vs 17 = .bool true := dep_of hD 17 (by rfl)
                    clear hK hD ho
                    dsimp only
                    go_simp
                    have h := HK.out _ _ (Below.refl _ _) rfl
                    simp only [upd, Nat.reduceEqDiff, reduceIte, e17] at h
                    exact h
                  | q + 19, ho => exact absurd ho (by simp)
                case fin =>
                  intro vs w13 hB hall
                  have el : vs 18 = .bool true := hall 18 (by decide)
                  have HLn : Hid (Below wr.heap.size wr w13) := HB1.out w13 hB
                  clear hall hB HB1 HG HL
                  rename Hid (Below wr.heap.size wr w13) => HL
                  rw [el]
                  generalize vs 0 = z0
                  generalize vs 1 = z1
                  generalize vs 2 = z2
                  generalize vs 3 = z3
                  generalize vs 4 = z4
                  generalize vs 5 = z5
                  generalize vs 6 = z6
                  generalize vs 7 = z7
                  generalize vs 8 = z8
                  generalize vs 9 = z9
                  generalize vs 10 = z10
                  generalize vs 11 = z11
                  generalize vs 12 = z12
                  generalize vs 13 = z13
                  generalize vs 14 = z14
                  generalize vs 15 = z15
                  generalize vs 16 = z16
                  generalize vs 17 = z17
                  clear vs el
                  go_wp2_with fail
                  go_ret
                  exact HE.out _ (HBT.out.trans (HL.out.mono HBT.out.size))

end Go.Proofs.Ytkbiopjinegckaa
