/-
  Texts of this claim, in their build order: Lib13.
-/
import Derived.Test.YtfdlhhinomjakaaHel33
import Derived.Test.YtfdlhhinomjakaaHel23
import Derived.Test.YtfdlhhinomjakaaHel25
import Derived.Test.YtfdlhhinomjakaaHel11
import Derived.Test.YtfdlhhinomjakaaHel21
import Derived.Test.YtfdlhhinomjakaaHel26
import Derived.Test.YtfdlhhinomjakaaHel8

namespace Go.Proofs.Ytfdlhhinomjakaa
section
open Go.RowKit

/-- Two rows beyond block B, apart from each other and from some cells laid for them. -/
structure RS (B : Nat) (W : World) (u1 u2 : Value) (m1 m2 : Nat) (xs1 xs2 : List Value) (S : List (Nat × Int)) : Prop where
  lt : B < W.heap.size
  r1 : W.ownsRow (B + 1) 3 1 u1 m1 xs1
  r2 : W.ownsRow (B + 1) 3 1 u2 m2 xs2
  ap : ∀ g, u1.ownBlock = some g → u2.ownBlock ≠ some g
  tm : ∀ p ∈ S, Blk W p.1 #[.int .i64 p.2] ∧ u1.ownBlock ≠ some p.1 ∧ u2.ownBlock ≠ some p.1
section
variable {B : Nat} {W : World} {u1 u2 : Value} {m1 m2 : Nat} {xs1 xs2 : List Value} {S : List (Nat × Int)}
theorem RS.to (h : RS B W u1 u2 m1 m2 xs1 xs2 S) {W' : World} (hb : Below W.heap.size W W') : RS B W' u1 u2 m1 m2 xs1 xs2 S :=
  ⟨Nat.lt_of_lt_of_le h.lt hb.size, owns_to h.r1 hb, owns_to h.r2 hb, h.ap, fun p hp => ⟨(h.tm p hp).1.to hb, (h.tm p hp).2⟩⟩
theorem RS.alloc (h : RS B W u1 u2 m1 m2 xs1 xs2 S) (x : Int) (T : TypeId) : RS B (W.alloc (.cells #[.int .i64 x] T)) u1 u2 m1 m2 xs1 xs2 ((W.heap.size, x) :: S) := by
  have hb : Below W.heap.size W (W.alloc (.cells #[.int .i64 x] T)) := bAlloc (bSelf W) _
  have h' := h.to hb
  refine ⟨h'.lt, h'.r1, h'.r2, h.ap, fun p hp => ?_⟩
  rcases List.mem_cons.1 hp with rfl | hp
  · exact ⟨Blk.new _ _ _, fun e => by have := (h.r1.lt _ e).2; dsimp only at this; omega, fun e => by have := (h.r2.lt _ e).2; dsimp only at this; omega⟩
  · exact h'.tm p hp
theorem RS.belowA (h : RS B W u1 u2 m1 m2 xs1 xs2 S) (o : Obj) : Below (B + 1) W (W.alloc o) := (Below.refl _ _).alloc h.lt o
theorem blk_grown {W W' : World} {b : Nat} {cs : Array Value} {row : Option Nat} (h : Blk W b cs) (hg : W.grownBy W' row) (hne : row ≠ some b) : Blk W' b cs := by
  have hb := hg.block b h.1 (fun e => hne e.symm)
  exact ⟨Nat.lt_of_lt_of_le h.1 hg.size, fun o => (World.cell?_of_block (a := ⟨b, o, none⟩) hb).trans (h.2.1 o), fun o => (World.frozen?_of_block (a := ⟨b, o, none⟩) hb).trans (h.2.2 o)⟩
theorem RS.app1 (h : RS B W u1 u2 m1 m2 xs1 xs2 S) {W' : World} {v' : Value} {m' : Nat} {ys : List Value} (hown : W'.ownsRow (B + 1) 3 1 v' m' ys) (hg : W.grownBy W' u1.ownBlock) (hw : v'.ownBlock = u1.ownBlock ∨ v'.ownBlock = some W.heap.size) :
    RS B W' v' u2 m' m2 ys xs2 S ∧ Below (B + 1) W W' := by
  refine ⟨⟨Nat.lt_of_lt_of_le h.lt hg.size, hown, h.r2.kept hg ?_, fun g e e2 => ?_, fun p hp => ?_⟩, (Below.refl _ _).grown hg h.lt (fun k e => (h.r1.lt k e).1)⟩
  · cases hv : u2.ownBlock with
    | none => exact .inl rfl
    | some g => exact .inr (fun e => h.ap g e.symm hv)
  · rcases hw with hw | hw
    · exact h.ap g (hw ▸ e) e2
    · have := (h.r2.lt g e2).2
      rw [hw] at e
      cases e
      omega
  · obtain ⟨h1, h2, h3⟩ := h.tm p hp
    refine ⟨blk_grown h1 hg h2, fun e => ?_, h3⟩
    rcases hw with hw | hw
    · exact h2 (hw ▸ e)
    · have := h1.1
      rw [hw] at e
      have e := Option.some.inj e
      omega
theorem RS.swap (h : RS B W u1 u2 m1 m2 xs1 xs2 S) : RS B W u2 u1 m2 m1 xs2 xs1 S :=
  ⟨h.lt, h.r2, h.r1, fun g e e2 => h.ap g e2 e, fun p hp => ⟨(h.tm p hp).1, (h.tm p hp).2.2, (h.tm p hp).2.1⟩⟩
theorem RS.app2 (h : RS B W u1 u2 m1 m2 xs1 xs2 S) {W' : World} {v' : Value} {m' : Nat} {ys : List Value} (hown : W'.ownsRow (B + 1) 3 1 v' m' ys) (hg : W.grownBy W' u2.ownBlock) (hw : v'.ownBlock = u2.ownBlock ∨ v'.ownBlock = some W.heap.size) :
    RS B W' u1 v' m1 m' xs1 ys S ∧ Below (B + 1) W W' := by
  obtain ⟨h1, h2⟩ := h.swap.app1 hown hg hw
  exact ⟨h1.swap, h2⟩
theorem RS.set (h : RS B W u1 u2 m1 m2 xs1 xs2 S) (i : Nat) (v : Value) : RS B (W.setCell ⟨B, i, none⟩ v) u1 u2 m1 m2 xs1 xs2 [] :=
  ⟨by simpa [World.setCell] using h.lt, ownsRow_setCell_below h.r1 (Nat.lt_succ_self B) v, ownsRow_setCell_below h.r2 (Nat.lt_succ_self B) v, h.ap, fun p hp => by cases hp⟩
end
theorem gi_rev {l : List Int} {k : Nat} (h : k < l.length) : gi l.reverse k = gi l (l.length - 1 - k) := by
  rw [gi_lt (by rw [List.length_reverse]; exact h), gi_lt (by omega), List.getElem_reverse]
theorem chkC_of {ks fs : List Int} (h : ChOk ks fs) (hn : 0 < ks.length) : (chkC ks fs).2 = 0 := by
  have hl := h.len
  have hf := h.few
  have e0 : chE0 ks fs = 0 := by
    unfold chE0
    rw [decide_eq_true (show (0 : Int) < ks.length by omega), show ((fs.length : Int) == ks.length) = true by rw [beq_iff_eq]; omega, decide_eq_true (show (ks.length : Int) ≤ 6 by omega)]
    rfl
  unfold chkC
  rw [if_pos e0, eachR_all ks.length 0 (fun j _ hj => ?_)]
  unfold nodE
  have h1 := h.k1 j (by omega)
  have h2 := h.f1 j (by omega)
  rw [decide_eq_true h1.1, decide_eq_true h1.2, decide_eq_true h2.1, decide_eq_true h2.2]
  rfl
end
end Go.Proofs.Ytfdlhhinomjakaa
