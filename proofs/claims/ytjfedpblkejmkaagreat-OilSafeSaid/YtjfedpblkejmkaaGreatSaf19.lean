/-
  Texts of this claim, in their build order: OM1 G9 G6 OP4.
-/
import Derived.Test.YtjfedpblkejmkaaGreatSaf18
import Derived.Test.YtjfedpblkejmkaaGreatSaf2
import Derived.Maps.OwnSet
import Derived.Maps.OwnIn
import Derived.Maps.RangeWalk
import Derived.DeepKeys4
import Derived.Test.YtjfedpblkejmkaaGreatSaf8
import Derived.Test.YtjfedpblkejmkaaGreatSaf16
import Derived.Lib.SmallJoins
import Derived.Test.YtjfedpblkejmkaaGreatSaf11

/-
  A map of states to bools, as a set of states.
-/
namespace Go.Proofs.YtjfedpblkejmkaaGreat
open Go.RowKit
open Go.Maps (Keyed)

abbrev stT : TypeId := 46
abbrev mpT : TypeId := 190
abbrev boT : TypeId := 4
theorem laidOutS : laidOutB Tryz.prog = true := by kernel_rfl
theorem arr2S {cs : Array Value} (h : cs.size = 2) : ∃ a b, cs = #[a, b] := by
  obtain ⟨l⟩ := cs
  match l, h with
  | [a, b], _ => exact ⟨a, b, rfl⟩
theorem ktS : Tryz.prog.keyType stT = true := by kernel_rfl
theorem lawS : Keyed Tryz.prog stT := Keyed.of_law (deep_law_laid laidOutS (m := 2) (by omega) (of_decide_eq_true (by kernel_rfl)) (by kernel_rfl) (by kernel_rfl))
theorem undM : Tryz.prog.underlying mpT = some (.map stT boT) := by kernel_rfl
theorem undB : Tryz.prog.underlying boT = some .bool := by kernel_rfl
theorem zeroB (w : World) : (zeroValue boT).run Tryz.prog w = .ok (.bool false) w := by kernel_rfl
theorem clsS : Tryz.prog.cellsOf stT = 2 := by kernel_rfl
theorem clsI : Tryz.prog.cellsOf 3 = 1 := by kernel_rfl
theorem clsB : Tryz.prog.cellsOf boT = 1 := by kernel_rfl

def StW (s : OSt) : Prop := -9223372036854775808 ≤ s.1 ∧ s.1 ≤ 9223372036854775807
theorem StW.wf {s : OSt} (h : StW s) : (Lit.int .i64 s.1).wf = true := WalkArith.wf_i64 (by have := h.1; have := h.2; omega)
abbrev stV (s : OSt) : Value := .agg #[.int .i64 s.1, .bool s.2]
def klS (s : OSt) : Lit := .string (keyBytes [.int .i64 s.1, .bool s.2])

theorem keyLits_mk (d : Nat) {s : OSt} (h : (Lit.int .i64 s.1).wf = true) : Tryz.prog.keyLits (d + 2) stT [.int .i64 s.1, .bool s.2] = some [.int .i64 s.1, .bool s.2] := by
  have e1 := Tryz.underlying3
  have e2 := Tryz.underlying4
  simp [Program.keyLits, Tryz.underlying46, clsS, clsI, clsB, h, e1, e2]
theorem keyLits_inv {d : Nat} {v1 v2 : Value} {ls : List Lit} (h : Tryz.prog.keyLits (d + 2) stT [v1, v2] = some ls) : ∃ s : OSt, v1 = .int .i64 s.1 ∧ v2 = .bool s.2 ∧ ls = [.int .i64 s.1, .bool s.2] ∧ (Lit.int .i64 s.1).wf = true := by
  have e1 := Tryz.underlying3
  have e2 := Tryz.underlying4
  simp [Program.keyLits, Tryz.underlying46, clsS, clsI, clsB, e1, e2] at h
  cases v1 <;> simp at h
  rename_i q n
  by_cases hq : q = .i64 ∧ (Lit.int .i64 n).wf = true
  · rw [if_pos hq] at h
    obtain ⟨rfl, hw⟩ := hq
    cases v2 <;> simp at h
    rename_i b
    exact ⟨(n, b), rfl, rfl, h.symm, hw⟩
  · rw [if_neg hq] at h
    simp at h
theorem size_pos : ∃ d, Tryz.prog.types.size + 1 = d + 2 := ⟨Tryz.prog.types.size - 1, by have : 1 ≤ Tryz.prog.types.size := of_decide_eq_true (by kernel_rfl); omega⟩
theorem keyS {s : OSt} (h : StW s) : keyOf Tryz.prog stT (stV s) = some (klS s) := by
  obtain ⟨d, hd⟩ := size_pos
  unfold keyOf klS stV
  simp only [Tryz.underlying46]
  rw [hd]
  simp [Value.formed, Tryz.underlying46, clsS, Value.cells, keyLits_mk d h.wf, ktS]
theorem keyS_inv {v : Value} {kl : Lit} (h : keyOf Tryz.prog stT v = some kl) : ∃ s : OSt, v = stV s ∧ kl = klS s ∧ (Lit.int .i64 s.1).wf = true := by
  obtain ⟨d, hd⟩ := size_pos
  unfold keyOf at h
  simp only [Tryz.underlying46] at h
  rw [hd] at h
  split at h
  · rename_i hf
    cases v <;> simp [Value.formed, Tryz.underlying46, clsS] at hf
    rename_i cs
    obtain ⟨a, b, rfl⟩ := arr2S hf.2
    simp [Value.cells] at h
    obtain ⟨ls, h1, h2⟩ := h
    obtain ⟨s, rfl, rfl, rfl, hw⟩ := keyLits_inv h1
    exact ⟨s, rfl, h2.symm, hw⟩
  · cases h

/-- A set of states. -/
def SetW (W : World) (b n : Nat) (S : OSt → Bool) : Prop :=
  ∃ D : DataW Unit, W.ownsMap Tryz.prog stT (plainElem Tryz.prog boT) b n D ∧ ∀ s, StW s → D.atKey (klS s) (.lit (.bool false)) = .lit (.bool (S s)) ∧ Maps.has D (klS s) = S s

theorem klS_ne {s t : OSt} (hs : StW s) (ht : StW t) (h : s ≠ t) : klS s ≠ klS t := by
  intro e
  have := lawS.inj (keyS hs) (e ▸ keyS ht)
  unfold stV at this
  injection this with this
  injection this with this
  injection this with h1 h2
  injection h2 with h2 _
  injection h1 with _ h1
  injection h2 with h2
  exact h (Prod.ext h1 h2)
theorem plainElem_bool_inv {v : Value} {z : DataW Unit × List MemPlace} (h : plainElem Tryz.prog boT v = some z) : ∃ x, v = .bool x ∧ z = (.lit (.bool x), []) := by
  unfold plainElem at h
  rw [undB] at h
  cases v <;> simp at h
  subst h
  exact ⟨_, rfl, rfl⟩

theorem SetW.new (w : World) : SetW (w.alloc (.map #[] 0)) w.heap.size 0 (fun _ => false) :=
  ⟨.map [], World.ownsMap_made w _ _ _, fun _ _ => ⟨rfl, rfl⟩⟩
theorem SetW.lt {W : World} {b n : Nat} {S : OSt → Bool} (h : SetW W b n S) : b < W.heap.size := by obtain ⟨D, h, -⟩ := h; exact h.lt
theorem SetW.same {W W' : World} {b n : Nat} {S : OSt → Bool} (h : SetW W b n S) (hb : W'.heap[b]? = W.heap[b]?) : SetW W' b n S := by
  obtain ⟨D, ⟨es, c, h1, h2⟩, h3⟩ := h
  exact ⟨D, ⟨es, c, hb.trans h1, h2⟩, h3⟩
theorem SetW.to {W W' : World} {b n : Nat} {S : OSt → Bool} (h : SetW W b n S) (hb : Below W.heap.size W W') : SetW W' b n S := h.same (hb.block b h.lt)
theorem SetW.mono {W : World} {b n n' : Nat} {S : OSt → Bool} (h : SetW W b n S) (hn : n ≤ n') : SetW W b n' S := by
  obtain ⟨D, h1, h3⟩ := h
  exact ⟨D, h1.mono hn, h3⟩
theorem SetW.ext {W : World} {b n : Nat} {S T : OSt → Bool} (h : SetW W b n S) (he : ∀ s, S s = T s) : SetW W b n T := by
  have : S = T := funext he
  rw [← this]; exact h
theorem SetW.grown {W W' : World} {b n : Nat} {S : OSt → Bool} {row : Option Nat} (h : SetW W b n S) (hg : W.grownBy W' row) (hr : some b ≠ row) : SetW W' b n S := by
  obtain ⟨D, h1, h3⟩ := h
  exact ⟨D, h1.kept hg hr, h3⟩
/-- Asked. -/
theorem SetW.ask {W : World} {b n : Nat} {S : OSt → Bool} (h : SetW W b n S) {s : OSt} (hs : StW s) : (Instr.lookup mpT (.map (some b)) (stV s) false).run Tryz.prog W = .ok (.bool (S s)) W := by
  obtain ⟨D, h1, h3⟩ := h
  obtain ⟨v, ps, hrun, hv⟩ := h1.lookup lawS undM (zeroB W) (plainElem_bool undB false) (keyS hs)
  rw [(h3 s hs).1] at hv
  obtain ⟨x, rfl, e⟩ := plainElem_bool_inv hv
  have e2 : DataW.lit (Lit.bool (S s)) = DataW.lit (Lit.bool x) := congrArg Prod.fst e
  have e3 : Lit.bool (S s) = Lit.bool x := DataW.lit.inj e2
  have e4 : S s = x := Lit.bool.inj e3
  rw [hrun, e4]
/-- Put in. -/
theorem SetW.put {W : World} {b n : Nat} {S : OSt → Bool} (h : SetW W b n S) {s : OSt} (hs : StW s) (hn : n < maxLen) :
    ∃ W', (Instr.mapUpdate mpT (.map (some b)) (stV s) (.bool true)).run Tryz.prog W = .ok () W' ∧ SetW W' b (n + 1) (fun x => S x || x == s) ∧ W.grownBy W' (some b) := by
  obtain ⟨D, h1, h3⟩ := h
  have hm : Maps.IsMap D := (h1.tidy lawS).isMap
  obtain ⟨W', hrun, h2, hg⟩ := h1.update lawS undM hn (keyS hs) (plainElem_bool undB true)
  refine ⟨W', hrun, ⟨_, h2, fun x hx => ?_⟩, hg⟩
  by_cases he : x = s
  · subst he
    rw [Maps.atKey_put_same hm (lawS.key (keyS hs)), Maps.has_put_same hm (lawS.key (keyS hs))]
    simp
  · rw [Maps.atKey_put_other (klS_ne hx hs he), Maps.has_put_other (klS_ne hx hs he), (h3 x hx).1, (h3 x hx).2]
    have : (x == s) = false := by simpa using he
    simp [this]

end Go.Proofs.YtjfedpblkejmkaaGreat

/-
  The arguments of the statements of chapter 3, opened: what is kept, what is chosen.
-/
namespace Go.Proofs.YtjfedpblkejmkaaGreat
open Go.ChangeShapes Go.WideShapes Go.ChangeAt Go.RowKit

theorem cellTypesKept : Tryz.prog.cellTypes Tryz.prog.depth 95 = some [3, 3, 3] := by kernel_rfl
set_option maxRecDepth 100000 in
theorem open_kept {w : World} {base : Nat} {v : Value} (h : Value.okWide Tryz.prog w .any base 95 v) : ∃ x y z : Int, v = .agg #[.int .i64 x, .int .i64 y, .int .i64 z] := by
  obtain ⟨fs, hu⟩ : ∃ fs, Tryz.prog.underlying 95 = some (.struct fs) := ⟨_, Tryz.underlying95⟩
  simp only [Value.okWide, hu] at h
  obtain ⟨cs, rfl, hs, hr⟩ := h
  obtain ⟨a, b, c, rfl⟩ := arr3 (hs.trans (show Tryz.prog.cellsOf 95 = 3 by kernel_rfl))
  obtain ⟨u0, hu0, hc0⟩ := row_at _ cellTypesKept hr (i := 0) (v := a) (by decide) rfl
  cases hu0
  obtain ⟨u1, hu1, hc1⟩ := row_at _ cellTypesKept hr (i := 1) (v := b) (by decide) rfl
  cases hu1
  obtain ⟨u2, hu2, hc2⟩ := row_at _ cellTypesKept hr (i := 2) (v := c) (by decide) rfl
  cases hu2
  obtain ⟨n0, rfl⟩ := cell_int Tryz.underlying3 hc0
  obtain ⟨n1, rfl⟩ := cell_int Tryz.underlying3 hc1
  obtain ⟨n2, rfl⟩ := cell_int Tryz.underlying3 hc2
  exact ⟨n0, n1, n2, rfl⟩
set_option maxRecDepth 100000 in
theorem state_of {H : Type} {enc : TypeId × Value → H} {W : World} {base fuel : Nat} {spare : Nat → Bool} {held : Bool} {cs : List Value} {y : DataW H × List MemPlace} (h : DataW.trod enc Tryz.prog W base spare held fuel 46 cs = some y) :
    ∃ p : OSt, cs = [.int .i64 p.1, .bool p.2] ∧ StW p := by
  obtain ⟨y0, y1, m, _, hl, h0, h1⟩ := trod_struct2 Tryz.underlying46 h
  have hl3 : cs.length = 2 := hl.trans (by kernel_rfl)
  have hc1 : Tryz.prog.cellsOf 3 = 1 := by kernel_rfl
  have hc2 : Tryz.prog.cellsOf 4 = 1 := by kernel_rfl
  match cs, hl3 with
  | [a, b], _ =>
    simp only [hc1, hc2] at h0 h1
    obtain ⟨n0, e0, -, w0⟩ := DataW.trod_int Tryz.underlying3 h0
    obtain ⟨n1, e1, -⟩ := DataW.trod_bool Tryz.underlying4 h1
    simp at e0 e1
    exact ⟨(n0, n1), by rw [e0, e1], ⟨(lit_i64 w0).1, (lit_i64 w0).2⟩⟩

set_option maxRecDepth 100000 in
theorem open_states' {H : Type} {enc : TypeId × Value → H} {W : World} {fuel : Nat} {cs : List Value} {x : DataW H × List MemPlace} (hf : DataW.trod enc Tryz.prog W 0 (fun _ => true) true fuel 49 cs = some x) :
    ∃ (ms : List OSt) (a : Option Addr) (cap : Nat), cs = [.slice a ms.length cap] ∧ ms.length ≤ maxLen ∧ ms.length ≤ cap ∧ Reads W a (ms.length * 2) (osts ms) ∧ ∀ k, k < ms.length → StW (sg ms k) := by
  rcases DataW.trod_slice Tryz.underlying49 hf with ⟨hcs, -⟩ | ⟨x, len0, cap0, elems, rest, n, _, hcs, _, hb, hl, hm, hlen, hel, -, -⟩
  · exact ⟨[], none, 0, hcs, Nat.zero_le _, Nat.zero_le _, .inl rfl, fun k hk => by simp at hk⟩
  · have hc3 : Tryz.prog.cellsOf 46 = 2 := by kernel_rfl
    have hex : ∀ i : Nat, ∃ q : OSt, i < len0 → StW q ∧ ∀ k, k < 2 → W.cell? (x.add (i * 2) |>.add k) = ([Value.int .i64 q.1, .bool q.2] : List Value)[k]? := by
      intro i
      by_cases hi : i < len0
      · have h1 := hel i hi
        rw [hc3, List.getElem?_eq_getElem (by omega)] at h1
        obtain ⟨cs', hcs, hy⟩ := Option.bind_eq_some_iff.1 h1
        obtain ⟨q, rfl, hq⟩ := state_of hy
        obtain ⟨-, -, h3⟩ := World.cells?_some hcs
        exact ⟨q, fun _ => ⟨hq, fun k hk => h3 k hk⟩⟩
      · exact ⟨(0, false), fun h => absurd h hi⟩
    obtain ⟨f, hf⟩ := Classical.axiomOfChoice hex
    have hml : ((List.range len0).map f).length = len0 := by simp
    have hg : ∀ i, i < len0 → sg ((List.range len0).map f) i = f i := fun i hi => by
      unfold sg
      rw [List.getD_eq_getElem?_getD, List.getElem?_map, List.getElem?_range (by omega)]
      rfl
    refine ⟨(List.range len0).map f, some x, cap0, by rw [hml]; exact hcs, by rw [hml]; omega, by rw [hml]; exact hl, ?_, fun k hk => by rw [hml] at hk; rw [hg k hk]; exact (hf k hk).1⟩
    rw [hml]
    by_cases h0 : len0 = 0
    · exact .inl (by rw [h0])
    · have hc := (hf 0 (by omega)).2 0 (by omega)
      obtain ⟨b, off, spot⟩ := x
      have hspot : spot = none := by simpa [Addr.add] using World.cell?_spot hc
      subst hspot
      have hadd : ∀ i j, ((⟨b, off, none⟩ : Addr).add i).add j = ⟨b, off + (i + j), none⟩ := by intro i j; unfold Addr.add; split <;> split <;> simp_all <;> omega
      refine .inr ⟨b, off, rfl, ?_, fun i hi => ?_⟩
      · have := cell_lt hc; rwa [hadd] at this
      · have h3 := (hf (i / 2) (by omega)).2 (i % 2) (Nat.mod_lt _ (by decide))
        rw [hadd, show i / 2 * 2 + i % 2 = i by omega] at h3
        rw [h3]
        unfold osts
        rw [hg _ (by omega)]
        have hcase : i % 2 = 0 ∨ i % 2 = 1 := by omega
        rcases hcase with h | h <;> rw [h] <;> rfl

set_option maxRecDepth 100000 in
theorem open_chosen {H : Type} {enc : TypeId × Value → H} {W : World} {v : Value} {d : DataW H} {p : List MemPlace} {base : Nat} (hv : Value.okWide Tryz.prog W .any base 117 v) (h : DataW.Trod enc Tryz.prog W 0 (fun _ => true) true 117 v d p) :
    ∃ (L : List OSt) (wh : Int) (ys : List Int) (aL ay : Option Addr) (cL cy : Nat), v = .agg #[.slice aL L.length cL, .int .i64 wh, .slice ay ys.length cy] ∧ (∀ k, k < L.length → StW (sg L k)) ∧ Reads W aL (L.length * 2) (osts L) ∧ Reads W ay ys.length (ints ys) := by
  obtain ⟨fs, hu⟩ : ∃ fs, Tryz.prog.underlying 117 = some (.struct fs) := ⟨_, Tryz.underlying117⟩
  simp only [Value.okWide, hu] at hv
  obtain ⟨cs, rfl, hs, -⟩ := hv
  obtain ⟨a, b, c, rfl⟩ := arr3 (hs.trans (show Tryz.prog.cellsOf 117 = 3 by kernel_rfl))
  obtain ⟨fuel, hf⟩ := h
  obtain ⟨y0, y1, y2, m, _, -, h0, h1, h2⟩ := Go.Deep.trod_struct3 Tryz.underlying117 hf
  have hc1 : Tryz.prog.cellsOf 49 = 1 := by kernel_rfl
  have hc2 : Tryz.prog.cellsOf 47 = 1 := by kernel_rfl
  have hc3 : Tryz.prog.cellsOf 3 = 1 := by kernel_rfl
  simp only [hc1, hc2, hc3] at h0 h1 h2
  obtain ⟨zs, a1, c1, e0, l0, k0, r0, w0⟩ := open_states' h0
  obtain ⟨n3, e1, -, -⟩ := DataW.trod_int Tryz.underlying3 h1
  obtain ⟨xs, a2, c2, e2, l1, k1, r1⟩ := open_ints' h2
  simp [Value.cells] at e0 e1 e2
  exact ⟨zs, n3, xs, a1, a2, c1, c2, by rw [e0, e1, e2], w0, r0, r1⟩

end Go.Proofs.YtjfedpblkejmkaaGreat

/-
  The arguments of the statements of chapter 3, opened: plants, states.
-/
namespace Go.Proofs.YtjfedpblkejmkaaGreat
open Go.ChangeShapes Go.WideShapes Go.ChangeAt Go.RowKit

set_option maxRecDepth 100000 in
theorem point_of {H : Type} {enc : TypeId × Value → H} {W : World} {base fuel : Nat} {spare : Nat → Bool} {held : Bool} {cs : List Value} {y : DataW H × List MemPlace} (h : DataW.trod enc Tryz.prog W base spare held fuel 188 cs = some y) :
    ∃ p : Int × Int, cs = [.int .i64 p.1, .int .i64 p.2] := by
  obtain ⟨y0, y1, m, _, hl, h0, h1⟩ := trod_struct2 Tryz.underlying188 h
  have hl3 : cs.length = 2 := hl.trans (by kernel_rfl)
  have hc1 : Tryz.prog.cellsOf 3 = 1 := by kernel_rfl
  match cs, hl3 with
  | [a, b], _ =>
    simp only [hc1] at h0 h1
    obtain ⟨n0, e0, -, -⟩ := DataW.trod_int Tryz.underlying3 h0
    obtain ⟨n1, e1, -, -⟩ := DataW.trod_int Tryz.underlying3 h1
    simp at e0 e1
    exact ⟨(n0, n1), by rw [e0, e1]⟩

set_option maxRecDepth 100000 in
theorem open_points' {H : Type} {enc : TypeId × Value → H} {W : World} {fuel : Nat} {cs : List Value} {x : DataW H × List MemPlace} (hf : DataW.trod enc Tryz.prog W 0 (fun _ => true) true fuel 42 cs = some x) :
    ∃ (ms : List (Int × Int)) (a : Option Addr) (cap : Nat), cs = [.slice a ms.length cap] ∧ ms.length ≤ maxLen ∧ ms.length ≤ cap ∧ Reads W a (ms.length * 2) (fracs ms) := by
  rcases DataW.trod_slice Tryz.underlying42 hf with ⟨hcs, -⟩ | ⟨x, len0, cap0, elems, rest, n, _, hcs, _, hb, hl, hm, hlen, hel, -, -⟩
  · exact ⟨[], none, 0, hcs, Nat.zero_le _, Nat.zero_le _, .inl rfl⟩
  · have hc3 : Tryz.prog.cellsOf 188 = 2 := by kernel_rfl
    have hex : ∀ i : Nat, ∃ q : Int × Int, i < len0 → ∀ k, k < 2 → W.cell? (x.add (i * 2) |>.add k) = ([Value.int .i64 q.1, .int .i64 q.2] : List Value)[k]? := by
      intro i
      by_cases hi : i < len0
      · have h1 := hel i hi
        rw [hc3, List.getElem?_eq_getElem (by omega)] at h1
        obtain ⟨cs', hcs, hy⟩ := Option.bind_eq_some_iff.1 h1
        obtain ⟨q, rfl⟩ := point_of hy
        obtain ⟨-, -, h3⟩ := World.cells?_some hcs
        exact ⟨q, fun _ k hk => h3 k hk⟩
      · exact ⟨(0, 0), fun h => absurd h hi⟩
    obtain ⟨f, hf⟩ := Classical.axiomOfChoice hex
    have hml : ((List.range len0).map f).length = len0 := by simp
    have hg : ∀ i, i < len0 → fg ((List.range len0).map f) i = f i := fun i hi => by
      unfold fg
      rw [List.getD_eq_getElem?_getD, List.getElem?_map, List.getElem?_range (by omega)]
      rfl
    refine ⟨(List.range len0).map f, some x, cap0, by rw [hml]; exact hcs, by rw [hml]; omega, by rw [hml]; exact hl, ?_⟩
    rw [hml]
    by_cases h0 : len0 = 0
    · exact .inl (by rw [h0])
    · have hc := hf 0 (by omega) 0 (by omega)
      obtain ⟨b, off, spot⟩ := x
      have hspot : spot = none := by simpa [Addr.add] using World.cell?_spot hc
      subst hspot
      have hadd : ∀ i j, ((⟨b, off, none⟩ : Addr).add i).add j = ⟨b, off + (i + j), none⟩ := by intro i j; unfold Addr.add; split <;> split <;> simp_all <;> omega
      refine .inr ⟨b, off, rfl, ?_, fun i hi => ?_⟩
      · have := cell_lt hc; rwa [hadd] at this
      · have h3 := hf (i / 2) (by omega) (i % 2) (Nat.mod_lt _ (by decide))
        rw [hadd, show i / 2 * 2 + i % 2 = i by omega] at h3
        rw [h3]
        unfold fracs
        rw [hg _ (by omega)]
        have hcase : i % 2 = 0 ∨ i % 2 = 1 := by omega
        rcases hcase with h | h <;> rw [h] <;> rfl

theorem arr4 {cs : Array Value} (h : cs.size = 4) : ∃ a b c d, cs = #[a, b, c, d] := by
  obtain ⟨l⟩ := cs
  match l, h with
  | [a, b, c, d], _ => exact ⟨a, b, c, d, rfl⟩
set_option maxRecDepth 100000 in
theorem open_plt {H : Type} {enc : TypeId × Value → H} {W : World} {v : Value} {d : DataW H} {p : List MemPlace} {base : Nat} (hv : Value.okWide Tryz.prog W .any base 44 v) (h : DataW.Trod enc Tryz.prog W 0 (fun _ => true) true 44 v d p) :
    ∃ (x : Plt) (a : Option Addr) (cap : Nat), v = .agg (plC x a cap) ∧ x.pts.length ≤ maxLen ∧ Reads W a (x.pts.length * 2) (fracs x.pts) := by
  obtain ⟨fs, hu⟩ : ∃ fs, Tryz.prog.underlying 44 = some (.struct fs) := ⟨_, Tryz.underlying44⟩
  simp only [Value.okWide, hu] at hv
  obtain ⟨cs, rfl, hs, -⟩ := hv
  obtain ⟨a, b, c, d, rfl⟩ := arr4 (hs.trans (show Tryz.prog.cellsOf 44 = 4 by kernel_rfl))
  obtain ⟨fuel, hf⟩ := h
  obtain ⟨y0, y1, y2, y3, m, _, -, h0, h1, h2, h3⟩ := Go.Joins.trod_struct4 Tryz.underlying44 hf
  have hc1 : Tryz.prog.cellsOf 42 = 1 := by kernel_rfl
  have hc2 : Tryz.prog.cellsOf 3 = 1 := by kernel_rfl
  simp only [hc1, hc2] at h0 h1 h2 h3
  obtain ⟨zs, a1, c1, e0, l0, -, r0⟩ := open_points' h0
  obtain ⟨n1, e1, -, -⟩ := DataW.trod_int Tryz.underlying3 h1
  obtain ⟨n2, e2, -, -⟩ := DataW.trod_int Tryz.underlying3 h2
  obtain ⟨n3, e3, -, -⟩ := DataW.trod_int Tryz.underlying3 h3
  simp [Value.cells] at e0 e1 e2 e3
  exact ⟨⟨zs, n1, n2, n3⟩, a1, c1, by rw [e0, e1, e2, e3], l0, r0⟩

end Go.Proofs.YtjfedpblkejmkaaGreat

/-
  Plain laws of classes: pressures are compared as volumes; the lowest pressure.
-/
namespace Go.Proofs.YtjfedpblkejmkaaGreat
open Go.RowKit

theorem less_up {l : List (Int × Int)} {v u : Int} (h : PtsOk l) (v0 : 0 ≤ v) (v1 : v ≤ capV l) (u0 : 0 ≤ u) (u1 : u ≤ capV l) : lessQ (prQ l v) (prQ l u) = decide (v < u) := by
  unfold lessQ
  by_cases hlt : v < u
  · rw [decide_eq_true hlt, decide_eq_true (prQ_up h v0 hlt u1)]
  · rw [decide_eq_false hlt]
    refine decide_eq_false fun hn => ?_
    rcases Int.lt_or_eq_of_le (show u ≤ v by omega) with h2 | h2
    · have := prQ_up h u0 h2 v1
      rw [Int.mul_comm (prQ l u).1, Int.mul_comm (prQ l v).1] at this
      have e1 := Int.mul_comm (prQ l u).1 (prQ l v).2
      have e2 := Int.mul_comm (prQ l v).1 (prQ l u).2
      omega
    · subst h2
      exact Int.lt_irrefl _ hn
/-- One level: the lowest volume so far, and its tick. -/
def lowD (tick : Int) (s : Int × Int) (a : OSt × List Int) : Int × Int := if a.1.1 < s.2 then (tick, a.1.1) else s
def lowL (tick : Int) (s : Int × Int) (now : List (OSt × List Int)) : Int × Int := now.foldl (lowD tick) s
/-- All levels: none if some demands empty the plant. -/
def lowF : Int → (Int × Int) → List (List (OSt × List Int) × Option (List Int)) → Option (Int × Int)
  | _, s, [] => some s
  | tick, s, (now, none) :: l => lowF (tick + 1) (lowL tick s now) l
  | _, _, (_, some _) :: _ => none
end Go.Proofs.YtjfedpblkejmkaaGreat

