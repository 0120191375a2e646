/-
  More general lemmas of our own: a block known whole.
-/
import Derived.Test.YtjieojkfpoiabaaLib
import Derived.Lib.Hide
import Derived.Laws.CopyOwn
namespace Go.Proofs.Ytjieojkfpoiabaa
open Go.RowKit

/-- Block b holds these cells, none of them frozen. -/
def Blk (w : World) (b : Nat) (cs : Array Value) : Prop :=
  b < w.heap.size ∧ (∀ o, w.cell? ⟨b, o, none⟩ = cs[o]?) ∧ (∀ o, w.frozen? ⟨b, o, none⟩ = false)

theorem Blk.below {B : Nat} {w w' : World} {b : Nat} {cs : Array Value} (h : Blk w b cs) (hb : Below B w w') (hB : b < B) : Blk w' b cs :=
  ⟨Nat.lt_of_lt_of_le h.1 hb.size, fun o => (hb.cell (p := ⟨b, o, none⟩) hB).trans (h.2.1 o), fun o => (hb.frozen (p := ⟨b, o, none⟩) hB).trans (h.2.2 o)⟩
theorem Blk.to {w w' : World} {b : Nat} {cs : Array Value} (h : Blk w b cs) (hb : Below w.heap.size w w') : Blk w' b cs := h.below hb h.1
theorem Blk.alloc {w : World} {b : Nat} {cs : Array Value} (h : Blk w b cs) (o : Obj) : Blk (w.alloc o) b cs := h.to ((Below.refl _ _).alloc (Nat.le_refl _) _)
theorem Blk.drew {w : World} {b : Nat} {cs : Array Value} (h : Blk w b cs) : Blk w.drew b cs := h
theorem Blk.new (w : World) (cs : Array Value) (T : TypeId) : Blk (w.alloc (.cells cs T)) w.heap.size cs :=
  have hh : (w.alloc (.cells cs T)).heap[w.heap.size]? = some (.cells cs T (0, 0)) := by
    show (w.heap.push _)[w.heap.size]? = _
    simp
  ⟨by simp, fun o => by unfold World.cell?; simp only [hh]; rfl, fun o => by unfold World.frozen?; simp only [hh]; simp⟩
theorem Blk.newAt (w : World) (cs : Array Value) (T : TypeId) {B : Nat} (h : w.heap.size = B) : Blk (w.alloc (.cells cs T)) B cs := by subst h; exact Blk.new w cs T
theorem Blk.other {w : World} {b : Nat} {cs : Array Value} (h : Blk w b cs) {p : Addr} (hp : p.block ≠ b) (v : Value) : Blk (w.setCell p v) b cs :=
  ⟨by simpa [World.setCell] using h.1, fun o => by rw [World.cell?_setCell_other _ _ _ _ (by intro e; rw [e] at hp; exact hp rfl)]; exact h.2.1 o, fun o => by rw [World.frozen?_setCell]; exact h.2.2 o⟩
theorem Blk.set {w : World} {b : Nat} {cs : Array Value} (h : Blk w b cs) (i : Nat) (v : Value) : Blk (w.setCell ⟨b, i, none⟩ v) b (cs.setIfInBounds i v) := by
  refine ⟨by simpa [World.setCell] using h.1, fun o => ?_, fun o => by rw [World.frozen?_setCell]; exact h.2.2 o⟩
  by_cases ho : o = i
  · subst ho
    by_cases hi : o < cs.size
    · have h1 : w.cell? ⟨b, o, none⟩ = some cs[o] := by rw [h.2.1 o]; simp [hi]
      rw [World.cell?_setCell_same _ _ _ h1]; simp [hi]
    · have h1 := h.2.1 o
      rw [Array.getElem?_eq_none (by omega)] at h1
      rw [Array.getElem?_eq_none (by simpa using hi)]
      unfold World.cell? at *
      simp only [World.setCell, Array.getElem?_modify, if_true] at *
      cases hh : w.heap[b]? with
      | none => simp
      | some ob =>
        rw [hh] at h1
        cases ob <;> simp_all
  · rw [World.cell?_setCell_other _ _ _ _ (by intro e; cases e; exact ho rfl), h.2.1 o, Array.getElem?_setIfInBounds_ne (by omega)]

theorem bAlloc {w W : World} (h : Below w.heap.size w W) (o : Obj) : Below w.heap.size w (W.alloc o) := h.alloc h.size o
theorem bThen {w W W' : World} (h : Below w.heap.size w W) (h' : Below W.heap.size W W') : Below w.heap.size w W' := h.trans (h'.mono h.size)
theorem bSelf (w : World) : Below w.heap.size w w := Below.refl _ _

end Go.Proofs.Ytjieojkfpoiabaa
