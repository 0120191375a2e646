/-
  Short names that the texts of this claim use: a fact hidden, and three laws of arrays.
-/
import Derived.Lib.Hide
namespace Go.Proofs.Ytfdlhhinomjakaa
open Go Go.RowKit

theorem zH {p : Prop} (h : p) : Hid p := Lib.hid h
theorem zzT {α : Type _} (l : List α) (i : Nat) (a : α) : l.toArray.setIfInBounds i a = (l.set i a).toArray := List.setIfInBounds_toArray ..
theorem zzO {α : Type _} {a b : α} {as : List α} : (a :: as).set 0 b = b :: as := rfl
theorem zzS {α : Type _} {a : α} {as : List α} {n : Nat} {b : α} : (a :: as).set (n + 1) b = a :: as.set n b := rfl

end Go.Proofs.Ytfdlhhinomjakaa
