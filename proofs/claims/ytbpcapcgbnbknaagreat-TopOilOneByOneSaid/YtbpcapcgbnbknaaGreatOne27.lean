/-
  Texts of this claim, in their build order: OM1.
-/
import Derived.Test.YtbpcapcgbnbknaaGreatOne26
import Derived.Test.YtbpcapcgbnbknaaGreatOne1
import Derived.Maps.OwnSet
import Derived.Maps.OwnIn
import Derived.Maps.RangeWalk
import Derived.DeepKeys4

namespace Go.Proofs.YtbpcapcgbnbknaaGreat
section
open Go.RowKit
open Go.Maps (Keyed)

abbrev stT : TypeId := 53
abbrev mpT : TypeId := 200
abbrev boT : TypeId := 4
theorem laidOutS : laidOutB Tryz.prog = true := by kernel_rfl
theorem ktS : Tryz.prog.keyType stT = true := by kernel_rfl
theorem lawS : Keyed Tryz.prog stT := Keyed.of_law (deep_law_laid laidOutS (m := 2) (by omega) (of_decide_eq_true (by kernel_rfl)) (by kernel_rfl) (by kernel_rfl))
theorem undM : Tryz.prog.underlying mpT = some (.map stT boT) := by kernel_rfl
theorem undB : Tryz.prog.underlying boT = some .bool := by kernel_rfl
theorem zeroB (w : World) : (zeroValue boT).run Tryz.prog w = .ok (.bool false) w := by kernel_rfl
theorem clsS : Tryz.prog.cellsOf stT = 2 := by kernel_rfl
theorem clsI : Tryz.prog.cellsOf 3 = 1 := by kernel_rfl
theorem clsB : Tryz.prog.cellsOf boT = 1 := by kernel_rfl

def StW (s : OSt) : Prop := -9223372036854775808 ≤ s.1 ∧ s.1 ≤ 9223372036854775807
theorem StW.wf {s : OSt} (h : StW s) : (Lit.int .i64 s.1).wf = true := WalkArith.wf_i64 (by have := h.1; have := h.2; omega)
abbrev stV (s : OSt) : Value := .agg #[.int .i64 s.1, .bool s.2]
def klS (s : OSt) : Lit := .string (keyBytes [.int .i64 s.1, .bool s.2])

theorem keyLits_mk (d : Nat) {s : OSt} (h : (Lit.int .i64 s.1).wf = true) : Tryz.prog.keyLits (d + 2) stT [.int .i64 s.1, .bool s.2] = some [.int .i64 s.1, .bool s.2] := by
  have e1 := Tryz.underlying3
  have e2 := Tryz.underlying4
  simp [Program.keyLits, Tryz.underlying53, clsS, clsI, clsB, h, e1, e2]
theorem size_pos : ∃ d, Tryz.prog.types.size + 1 = d + 2 := ⟨Tryz.prog.types.size - 1, by have : 1 ≤ Tryz.prog.types.size := of_decide_eq_true (by kernel_rfl); omega⟩
theorem keyS {s : OSt} (h : StW s) : keyOf Tryz.prog stT (stV s) = some (klS s) := by
  obtain ⟨d, hd⟩ := size_pos
  unfold keyOf klS stV
  simp only [Tryz.underlying53]
  rw [hd]
  simp [Value.formed, Tryz.underlying53, clsS, Value.cells, keyLits_mk d h.wf, ktS]
/-- A set of states. -/
def SetW (W : World) (b n : Nat) (S : OSt → Bool) : Prop :=
  ∃ D : DataW Unit, W.ownsMap Tryz.prog stT (plainElem Tryz.prog boT) b n D ∧ ∀ s, StW s → D.atKey (klS s) (.lit (.bool false)) = .lit (.bool (S s)) ∧ Maps.has D (klS s) = S s

theorem klS_ne {s t : OSt} (hs : StW s) (ht : StW t) (h : s ≠ t) : klS s ≠ klS t := by
  intro e
  have := lawS.inj (keyS hs) (e ▸ keyS ht)
  unfold stV at this
  injection this with this
  injection this with this
  injection this with h1 h2
  injection h2 with h2 _
  injection h1 with _ h1
  injection h2 with h2
  exact h (Prod.ext h1 h2)
theorem plainElem_bool_inv {v : Value} {z : DataW Unit × List MemPlace} (h : plainElem Tryz.prog boT v = some z) : ∃ x, v = .bool x ∧ z = (.lit (.bool x), []) := by
  unfold plainElem at h
  rw [undB] at h
  cases v <;> simp at h
  subst h
  exact ⟨_, rfl, rfl⟩

theorem SetW.new (w : World) : SetW (w.alloc (.map #[] 0)) w.heap.size 0 (fun _ => false) :=
  ⟨.map [], World.ownsMap_made w _ _ _, fun _ _ => ⟨rfl, rfl⟩⟩
theorem SetW.lt {W : World} {b n : Nat} {S : OSt → Bool} (h : SetW W b n S) : b < W.heap.size := by obtain ⟨D, h, -⟩ := h; exact h.lt
theorem SetW.same {W W' : World} {b n : Nat} {S : OSt → Bool} (h : SetW W b n S) (hb : W'.heap[b]? = W.heap[b]?) : SetW W' b n S := by
  obtain ⟨D, ⟨es, c, h1, h2⟩, h3⟩ := h
  exact ⟨D, ⟨es, c, hb.trans h1, h2⟩, h3⟩
theorem SetW.to {W W' : World} {b n : Nat} {S : OSt → Bool} (h : SetW W b n S) (hb : Below W.heap.size W W') : SetW W' b n S := h.same (hb.block b h.lt)
theorem SetW.mono {W : World} {b n n' : Nat} {S : OSt → Bool} (h : SetW W b n S) (hn : n ≤ n') : SetW W b n' S := by
  obtain ⟨D, h1, h3⟩ := h
  exact ⟨D, h1.mono hn, h3⟩
theorem SetW.ext {W : World} {b n : Nat} {S T : OSt → Bool} (h : SetW W b n S) (he : ∀ s, S s = T s) : SetW W b n T := by
  have : S = T := funext he
  rw [← this]; exact h
theorem SetW.grown {W W' : World} {b n : Nat} {S : OSt → Bool} {row : Option Nat} (h : SetW W b n S) (hg : W.grownBy W' row) (hr : some b ≠ row) : SetW W' b n S := by
  obtain ⟨D, h1, h3⟩ := h
  exact ⟨D, h1.kept hg hr, h3⟩
/-- Asked. -/
theorem SetW.ask {W : World} {b n : Nat} {S : OSt → Bool} (h : SetW W b n S) {s : OSt} (hs : StW s) : (Instr.lookup mpT (.map (some b)) (stV s) false).run Tryz.prog W = .ok (.bool (S s)) W := by
  obtain ⟨D, h1, h3⟩ := h
  obtain ⟨v, ps, hrun, hv⟩ := h1.lookup lawS undM (zeroB W) (plainElem_bool undB false) (keyS hs)
  rw [(h3 s hs).1] at hv
  obtain ⟨x, rfl, e⟩ := plainElem_bool_inv hv
  have e2 : DataW.lit (Lit.bool (S s)) = DataW.lit (Lit.bool x) := congrArg Prod.fst e
  have e3 : Lit.bool (S s) = Lit.bool x := DataW.lit.inj e2
  have e4 : S s = x := Lit.bool.inj e3
  rw [hrun, e4]
/-- Put in. -/
theorem SetW.put {W : World} {b n : Nat} {S : OSt → Bool} (h : SetW W b n S) {s : OSt} (hs : StW s) (hn : n < maxLen) :
    ∃ W', (Instr.mapUpdate mpT (.map (some b)) (stV s) (.bool true)).run Tryz.prog W = .ok () W' ∧ SetW W' b (n + 1) (fun x => S x || x == s) ∧ W.grownBy W' (some b) := by
  obtain ⟨D, h1, h3⟩ := h
  have hm : Maps.IsMap D := (h1.tidy lawS).isMap
  obtain ⟨W', hrun, h2, hg⟩ := h1.update lawS undM hn (keyS hs) (plainElem_bool undB true)
  refine ⟨W', hrun, ⟨_, h2, fun x hx => ?_⟩, hg⟩
  by_cases he : x = s
  · subst he
    rw [Maps.atKey_put_same hm (lawS.key (keyS hs)), Maps.has_put_same hm (lawS.key (keyS hs))]
    simp
  · rw [Maps.atKey_put_other (klS_ne hx hs he), Maps.has_put_other (klS_ne hx hs he), (h3 x hx).1, (h3 x hx).2]
    have : (x == s) = false := by simpa using he
    simp [this]
end
end Go.Proofs.YtbpcapcgbnbknaaGreat
