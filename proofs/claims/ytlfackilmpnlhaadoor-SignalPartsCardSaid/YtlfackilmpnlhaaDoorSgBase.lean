/- How signals are told: slices of signals, what is asked of them, the key words. -/
import Derived.Test.YtlfackilmpnlhaaDoorBase
namespace Go.Proofs.YtlfackilmpnlhaaDoor
open Go.RowKit

structure Sig where
  name : ByteArray
  inp : Bool
  size : Int

def sig0 : Sig := ⟨⟨#[]⟩, false, 0⟩

/-- The slice of signals with address ao lies from ⟨b, off⟩ on. -/
structure SArr (w : World) (ao : Option Addr) (cap b off : Nat) (l : List Sig) : Prop where
  lc : l.length ≤ cap
  cm : cap ≤ maxLen
  nm : l.length ≤ maxN
  ad : 0 < l.length → ao = some ⟨b, off, none⟩
  nn : ∀ j (h : j < l.length), w.cell? ⟨b, off + j * 3, none⟩ = some (.string l[j].name)
  ni : ∀ j (h : j < l.length), w.cell? ⟨b, off + j * 3 + 1, none⟩ = some (.bool l[j].inp)
  nz : ∀ j (h : j < l.length), w.cell? ⟨b, off + j * 3 + 2, none⟩ = some (.int .i64 l[j].size)
  sz : ∀ s ∈ l, I64 s.size
  sn : ∀ s ∈ l, s.name.size ≤ maxN

def IsSigs (w : World) (v : Value) (l : List Sig) : Prop := ∃ ao cap b off, v = .slice ao l.length cap ∧ SArr w ao cap b off l

theorem SArr.below {w wr : World} {ao : Option Addr} {cap b off : Nat} {l : List Sig} (h : SArr w ao cap b off l) (hb : Below w.heap.size w wr) : SArr wr ao cap b off l :=
  { h with
    nn := fun j hj => cellB hb (h.nn j hj)
    ni := fun j hj => cellB hb (h.ni j hj)
    nz := fun j hj => cellB hb (h.nz j hj) }
theorem IsSigs.below {w wr : World} {v : Value} {l : List Sig} (h : IsSigs w v l) (hb : Below w.heap.size w wr) : IsSigs wr v l := by
  obtain ⟨ao, cap, b, off, rfl, h⟩ := h
  exact ⟨ao, cap, b, off, rfl, h.below hb⟩
theorem SArr.nb {w : World} {ao : Option Addr} {cap b off : Nat} {l : List Sig} (h : SArr w ao cap b off l) : l.length ≤ 140737488351232 := h.nm

/-- The key words, as lists of bytes. -/
def keyL : List (List UInt8) := [[105, 110, 112, 117, 116], [111, 117, 116, 112, 117, 116], [112, 97, 114, 116], [97, 115, 115, 117, 109, 101], [103, 117, 97, 114, 97, 110, 116, 101, 101], [116, 114, 117, 101], [102, 97, 108, 115, 101], [97, 100, 100], [100, 114, 111, 112], [114, 101, 112, 108, 97, 99, 101]]
def keyA (j : Nat) : ByteArray := ⟨(keyL.getD j []).toArray⟩
/-- The variable of the key words reads as it was laid. -/
def Keys (w : World) : Prop := ∀ j, j < 10 → w.cell? ⟨0, j, none⟩ = some (.string (keyA j))
theorem Keys.below {w wr : World} (h : Keys w) (hb : Below w.heap.size w wr) : Keys wr := fun j hj => cellB hb (h j hj)

/-- A key word. -/
def isKey (s : ByteArray) : Bool := keyL.contains s.toList

def byteB (first : Bool) (c : UInt8) : Bool := (decide (97 ≤ c.toNat) && decide (c.toNat ≤ 122)) || (!first && ((decide (48 ≤ c.toNat) && decide (c.toNat ≤ 57)) || decide (c.toNat = 95)))
/-- A name is well-formed. -/
def nameB (s : ByteArray) : Bool := decide (1 ≤ s.size) && decide (s.size ≤ 12) && (List.range s.size).all (fun i => byteB (decide (i = 0)) (s.data.toList.getD i 0)) && !isKey s

def findF (s : ByteArray) : List Sig → Nat → Int
  | [], _ => -1
  | x :: r, k => if x.name.toList = s.toList then k else findF s r (k + 1)
/-- The index of the first signal with a name. -/
def findI (l : List Sig) (s : ByteArray) : Int := findF s l 0

theorem drop_cons {α : Type} (l : List α) (k : Nat) (h : k < l.length) : l.drop k = l[k] :: l.drop (k + 1) := List.drop_eq_getElem_cons h

end Go.Proofs.YtlfackilmpnlhaaDoor
