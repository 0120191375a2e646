/-
  Texts of this claim, in their build order: Y4.
-/
import Derived.Test.YtmofgejoogikfaaTop33
import Derived.Test.YtmofgejoogikfaaTop16

/-
  The reference's force of a spring.
-/
namespace Go.Proofs.Ytmofgejoogikfaa
open Go.RowKit

theorem fr_sm {p : Int × Int} (h : SmF p) : (fr p.1 p.2).1.natAbs ≤ 1000000000 ∧ (fr p.1 p.2).2.natAbs ≤ 1000000000 ∧ 0 < (fr p.1 p.2).2 := by
  obtain ⟨h0, h1, h2, h3⟩ := h
  exact ⟨fr_bd1 (by omega), fr_bd2 (by omega), fr_pos (by omega)⟩
end Go.Proofs.Ytmofgejoogikfaa

