/-
  Texts of this claim, in their build order: OM1 G9 G10 OP4 OP8 OP9 OP10.
-/
import Derived.Test.YtjfedpblkejmkaaGreatSfy24
import Derived.Test.YtjfedpblkejmkaaGreatSfy1
import Derived.Maps.OwnSet
import Derived.Maps.OwnIn
import Derived.Maps.RangeWalk
import Derived.DeepKeys4
import Derived.Test.YtjfedpblkejmkaaGreatSfy7
import Derived.Test.YtjfedpblkejmkaaGreatSfy19

/-
  A map of states to bools, as a set of states.
-/
namespace Go.Proofs.YtjfedpblkejmkaaGreat
open Go.RowKit
open Go.Maps (Keyed)

abbrev stT : TypeId := 46
abbrev mpT : TypeId := 190
abbrev boT : TypeId := 4
theorem laidOutS : laidOutB Tryz.prog = true := by kernel_rfl
theorem arr2S {cs : Array Value} (h : cs.size = 2) : ∃ a b, cs = #[a, b] := by
  obtain ⟨l⟩ := cs
  match l, h with
  | [a, b], _ => exact ⟨a, b, rfl⟩
theorem ktS : Tryz.prog.keyType stT = true := by kernel_rfl
theorem lawS : Keyed Tryz.prog stT := Keyed.of_law (deep_law_laid laidOutS (m := 2) (by omega) (of_decide_eq_true (by kernel_rfl)) (by kernel_rfl) (by kernel_rfl))
theorem undM : Tryz.prog.underlying mpT = some (.map stT boT) := by kernel_rfl
theorem undB : Tryz.prog.underlying boT = some .bool := by kernel_rfl
theorem zeroB (w : World) : (zeroValue boT).run Tryz.prog w = .ok (.bool false) w := by kernel_rfl
theorem clsS : Tryz.prog.cellsOf stT = 2 := by kernel_rfl
theorem clsI : Tryz.prog.cellsOf 3 = 1 := by kernel_rfl
theorem clsB : Tryz.prog.cellsOf boT = 1 := by kernel_rfl

def StW (s : OSt) : Prop := -9223372036854775808 ≤ s.1 ∧ s.1 ≤ 9223372036854775807
theorem StW.wf {s : OSt} (h : StW s) : (Lit.int .i64 s.1).wf = true := WalkArith.wf_i64 (by have := h.1; have := h.2; omega)
abbrev stV (s : OSt) : Value := .agg #[.int .i64 s.1, .bool s.2]
def klS (s : OSt) : Lit := .string (keyBytes [.int .i64 s.1, .bool s.2])

theorem keyLits_mk (d : Nat) {s : OSt} (h : (Lit.int .i64 s.1).wf = true) : Tryz.prog.keyLits (d + 2) stT [.int .i64 s.1, .bool s.2] = some [.int .i64 s.1, .bool s.2] := by
  have e1 := Tryz.underlying3
  have e2 := Tryz.underlying4
  simp [Program.keyLits, Tryz.underlying46, clsS, clsI, clsB, h, e1, e2]
theorem keyLits_inv {d : Nat} {v1 v2 : Value} {ls : List Lit} (h : Tryz.prog.keyLits (d + 2) stT [v1, v2] = some ls) : ∃ s : OSt, v1 = .int .i64 s.1 ∧ v2 = .bool s.2 ∧ ls = [.int .i64 s.1, .bool s.2] ∧ (Lit.int .i64 s.1).wf = true := by
  have e1 := Tryz.underlying3
  have e2 := Tryz.underlying4
  simp [Program.keyLits, Tryz.underlying46, clsS, clsI, clsB, e1, e2] at h
  cases v1 <;> simp at h
  rename_i q n
  by_cases hq : q = .i64 ∧ (Lit.int .i64 n).wf = true
  · rw [if_pos hq] at h
    obtain ⟨rfl, hw⟩ := hq
    cases v2 <;> simp at h
    rename_i b
    exact ⟨(n, b), rfl, rfl, h.symm, hw⟩
  · rw [if_neg hq] at h
    simp at h
theorem size_pos : ∃ d, Tryz.prog.types.size + 1 = d + 2 := ⟨Tryz.prog.types.size - 1, by have : 1 ≤ Tryz.prog.types.size := of_decide_eq_true (by kernel_rfl); omega⟩
theorem keyS {s : OSt} (h : StW s) : keyOf Tryz.prog stT (stV s) = some (klS s) := by
  obtain ⟨d, hd⟩ := size_pos
  unfold keyOf klS stV
  simp only [Tryz.underlying46]
  rw [hd]
  simp [Value.formed, Tryz.underlying46, clsS, Value.cells, keyLits_mk d h.wf, ktS]
theorem keyS_inv {v : Value} {kl : Lit} (h : keyOf Tryz.prog stT v = some kl) : ∃ s : OSt, v = stV s ∧ kl = klS s ∧ (Lit.int .i64 s.1).wf = true := by
  obtain ⟨d, hd⟩ := size_pos
  unfold keyOf at h
  simp only [Tryz.underlying46] at h
  rw [hd] at h
  split at h
  · rename_i hf
    cases v <;> simp [Value.formed, Tryz.underlying46, clsS] at hf
    rename_i cs
    obtain ⟨a, b, rfl⟩ := arr2S hf.2
    simp [Value.cells] at h
    obtain ⟨ls, h1, h2⟩ := h
    obtain ⟨s, rfl, rfl, rfl, hw⟩ := keyLits_inv h1
    exact ⟨s, rfl, h2.symm, hw⟩
  · cases h

/-- A set of states. -/
def SetW (W : World) (b n : Nat) (S : OSt → Bool) : Prop :=
  ∃ D : DataW Unit, W.ownsMap Tryz.prog stT (plainElem Tryz.prog boT) b n D ∧ ∀ s, StW s → D.atKey (klS s) (.lit (.bool false)) = .lit (.bool (S s)) ∧ Maps.has D (klS s) = S s

theorem klS_ne {s t : OSt} (hs : StW s) (ht : StW t) (h : s ≠ t) : klS s ≠ klS t := by
  intro e
  have := lawS.inj (keyS hs) (e ▸ keyS ht)
  unfold stV at this
  injection this with this
  injection this with this
  injection this with h1 h2
  injection h2 with h2 _
  injection h1 with _ h1
  injection h2 with h2
  exact h (Prod.ext h1 h2)
theorem plainElem_bool_inv {v : Value} {z : DataW Unit × List MemPlace} (h : plainElem Tryz.prog boT v = some z) : ∃ x, v = .bool x ∧ z = (.lit (.bool x), []) := by
  unfold plainElem at h
  rw [undB] at h
  cases v <;> simp at h
  subst h
  exact ⟨_, rfl, rfl⟩

theorem SetW.new (w : World) : SetW (w.alloc (.map #[] 0)) w.heap.size 0 (fun _ => false) :=
  ⟨.map [], World.ownsMap_made w _ _ _, fun _ _ => ⟨rfl, rfl⟩⟩
theorem SetW.lt {W : World} {b n : Nat} {S : OSt → Bool} (h : SetW W b n S) : b < W.heap.size := by obtain ⟨D, h, -⟩ := h; exact h.lt
theorem SetW.same {W W' : World} {b n : Nat} {S : OSt → Bool} (h : SetW W b n S) (hb : W'.heap[b]? = W.heap[b]?) : SetW W' b n S := by
  obtain ⟨D, ⟨es, c, h1, h2⟩, h3⟩ := h
  exact ⟨D, ⟨es, c, hb.trans h1, h2⟩, h3⟩
theorem SetW.to {W W' : World} {b n : Nat} {S : OSt → Bool} (h : SetW W b n S) (hb : Below W.heap.size W W') : SetW W' b n S := h.same (hb.block b h.lt)
theorem SetW.mono {W : World} {b n n' : Nat} {S : OSt → Bool} (h : SetW W b n S) (hn : n ≤ n') : SetW W b n' S := by
  obtain ⟨D, h1, h3⟩ := h
  exact ⟨D, h1.mono hn, h3⟩
theorem SetW.ext {W : World} {b n : Nat} {S T : OSt → Bool} (h : SetW W b n S) (he : ∀ s, S s = T s) : SetW W b n T := by
  have : S = T := funext he
  rw [← this]; exact h
theorem SetW.grown {W W' : World} {b n : Nat} {S : OSt → Bool} {row : Option Nat} (h : SetW W b n S) (hg : W.grownBy W' row) (hr : some b ≠ row) : SetW W' b n S := by
  obtain ⟨D, h1, h3⟩ := h
  exact ⟨D, h1.kept hg hr, h3⟩
/-- Asked. -/
theorem SetW.ask {W : World} {b n : Nat} {S : OSt → Bool} (h : SetW W b n S) {s : OSt} (hs : StW s) : (Instr.lookup mpT (.map (some b)) (stV s) false).run Tryz.prog W = .ok (.bool (S s)) W := by
  obtain ⟨D, h1, h3⟩ := h
  obtain ⟨v, ps, hrun, hv⟩ := h1.lookup lawS undM (zeroB W) (plainElem_bool undB false) (keyS hs)
  rw [(h3 s hs).1] at hv
  obtain ⟨x, rfl, e⟩ := plainElem_bool_inv hv
  have e2 : DataW.lit (Lit.bool (S s)) = DataW.lit (Lit.bool x) := congrArg Prod.fst e
  have e3 : Lit.bool (S s) = Lit.bool x := DataW.lit.inj e2
  have e4 : S s = x := Lit.bool.inj e3
  rw [hrun, e4]
/-- Put in. -/
theorem SetW.put {W : World} {b n : Nat} {S : OSt → Bool} (h : SetW W b n S) {s : OSt} (hs : StW s) (hn : n < maxLen) :
    ∃ W', (Instr.mapUpdate mpT (.map (some b)) (stV s) (.bool true)).run Tryz.prog W = .ok () W' ∧ SetW W' b (n + 1) (fun x => S x || x == s) ∧ W.grownBy W' (some b) := by
  obtain ⟨D, h1, h3⟩ := h
  have hm : Maps.IsMap D := (h1.tidy lawS).isMap
  obtain ⟨W', hrun, h2, hg⟩ := h1.update lawS undM hn (keyS hs) (plainElem_bool undB true)
  refine ⟨W', hrun, ⟨_, h2, fun x hx => ?_⟩, hg⟩
  by_cases he : x = s
  · subst he
    rw [Maps.atKey_put_same hm (lawS.key (keyS hs)), Maps.has_put_same hm (lawS.key (keyS hs))]
    simp
  · rw [Maps.atKey_put_other (klS_ne hx hs he), Maps.has_put_other (klS_ne hx hs he), (h3 x hx).1, (h3 x hx).2]
    have : (x == s) = false := by simpa using he
    simp [this]

end Go.Proofs.YtjfedpblkejmkaaGreat

/-
  The arguments of the statements of chapter 3, opened: what is kept, what is chosen.
-/
namespace Go.Proofs.YtjfedpblkejmkaaGreat
open Go.ChangeShapes Go.WideShapes Go.ChangeAt Go.RowKit

theorem cellTypesKept : Tryz.prog.cellTypes Tryz.prog.depth 95 = some [3, 3, 3] := by kernel_rfl
set_option maxRecDepth 100000 in
theorem open_kept {w : World} {base : Nat} {v : Value} (h : Value.okWide Tryz.prog w .any base 95 v) : ∃ x y z : Int, v = .agg #[.int .i64 x, .int .i64 y, .int .i64 z] := by
  obtain ⟨fs, hu⟩ : ∃ fs, Tryz.prog.underlying 95 = some (.struct fs) := ⟨_, Tryz.underlying95⟩
  simp only [Value.okWide, hu] at h
  obtain ⟨cs, rfl, hs, hr⟩ := h
  obtain ⟨a, b, c, rfl⟩ := arr3 (hs.trans (show Tryz.prog.cellsOf 95 = 3 by kernel_rfl))
  obtain ⟨u0, hu0, hc0⟩ := row_at _ cellTypesKept hr (i := 0) (v := a) (by decide) rfl
  cases hu0
  obtain ⟨u1, hu1, hc1⟩ := row_at _ cellTypesKept hr (i := 1) (v := b) (by decide) rfl
  cases hu1
  obtain ⟨u2, hu2, hc2⟩ := row_at _ cellTypesKept hr (i := 2) (v := c) (by decide) rfl
  cases hu2
  obtain ⟨n0, rfl⟩ := cell_int Tryz.underlying3 hc0
  obtain ⟨n1, rfl⟩ := cell_int Tryz.underlying3 hc1
  obtain ⟨n2, rfl⟩ := cell_int Tryz.underlying3 hc2
  exact ⟨n0, n1, n2, rfl⟩
set_option maxRecDepth 100000 in
theorem state_of {H : Type} {enc : TypeId × Value → H} {W : World} {base fuel : Nat} {spare : Nat → Bool} {held : Bool} {cs : List Value} {y : DataW H × List MemPlace} (h : DataW.trod enc Tryz.prog W base spare held fuel 46 cs = some y) :
    ∃ p : OSt, cs = [.int .i64 p.1, .bool p.2] ∧ StW p := by
  obtain ⟨y0, y1, m, _, hl, h0, h1⟩ := trod_struct2 Tryz.underlying46 h
  have hl3 : cs.length = 2 := hl.trans (by kernel_rfl)
  have hc1 : Tryz.prog.cellsOf 3 = 1 := by kernel_rfl
  have hc2 : Tryz.prog.cellsOf 4 = 1 := by kernel_rfl
  match cs, hl3 with
  | [a, b], _ =>
    simp only [hc1, hc2] at h0 h1
    obtain ⟨n0, e0, -, w0⟩ := DataW.trod_int Tryz.underlying3 h0
    obtain ⟨n1, e1, -⟩ := DataW.trod_bool Tryz.underlying4 h1
    simp at e0 e1
    exact ⟨(n0, n1), by rw [e0, e1], ⟨(lit_i64 w0).1, (lit_i64 w0).2⟩⟩

set_option maxRecDepth 100000 in
theorem open_states' {H : Type} {enc : TypeId × Value → H} {W : World} {fuel : Nat} {cs : List Value} {x : DataW H × List MemPlace} (hf : DataW.trod enc Tryz.prog W 0 (fun _ => true) true fuel 49 cs = some x) :
    ∃ (ms : List OSt) (a : Option Addr) (cap : Nat), cs = [.slice a ms.length cap] ∧ ms.length ≤ maxLen ∧ ms.length ≤ cap ∧ Reads W a (ms.length * 2) (osts ms) ∧ ∀ k, k < ms.length → StW (sg ms k) := by
  rcases DataW.trod_slice Tryz.underlying49 hf with ⟨hcs, -⟩ | ⟨x, len0, cap0, elems, rest, n, _, hcs, _, hb, hl, hm, hlen, hel, -, -⟩
  · exact ⟨[], none, 0, hcs, Nat.zero_le _, Nat.zero_le _, .inl rfl, fun k hk => by simp at hk⟩
  · have hc3 : Tryz.prog.cellsOf 46 = 2 := by kernel_rfl
    have hex : ∀ i : Nat, ∃ q : OSt, i < len0 → StW q ∧ ∀ k, k < 2 → W.cell? (x.add (i * 2) |>.add k) = ([Value.int .i64 q.1, .bool q.2] : List Value)[k]? := by
      intro i
      by_cases hi : i < len0
      · have h1 := hel i hi
        rw [hc3, List.getElem?_eq_getElem (by omega)] at h1
        obtain ⟨cs', hcs, hy⟩ := Option.bind_eq_some_iff.1 h1
        obtain ⟨q, rfl, hq⟩ := state_of hy
        obtain ⟨-, -, h3⟩ := World.cells?_some hcs
        exact ⟨q, fun _ => ⟨hq, fun k hk => h3 k hk⟩⟩
      · exact ⟨(0, false), fun h => absurd h hi⟩
    obtain ⟨f, hf⟩ := Classical.axiomOfChoice hex
    have hml : ((List.range len0).map f).length = len0 := by simp
    have hg : ∀ i, i < len0 → sg ((List.range len0).map f) i = f i := fun i hi => by
      unfold sg
      rw [List.getD_eq_getElem?_getD, List.getElem?_map, List.getElem?_range (by omega)]
      rfl
    refine ⟨(List.range len0).map f, some x, cap0, by rw [hml]; exact hcs, by rw [hml]; omega, by rw [hml]; exact hl, ?_, fun k hk => by rw [hml] at hk; rw [hg k hk]; exact (hf k hk).1⟩
    rw [hml]
    by_cases h0 : len0 = 0
    · exact .inl (by rw [h0])
    · have hc := (hf 0 (by omega)).2 0 (by omega)
      obtain ⟨b, off, spot⟩ := x
      have hspot : spot = none := by simpa [Addr.add] using World.cell?_spot hc
      subst hspot
      have hadd : ∀ i j, ((⟨b, off, none⟩ : Addr).add i).add j = ⟨b, off + (i + j), none⟩ := by intro i j; unfold Addr.add; split <;> split <;> simp_all <;> omega
      refine .inr ⟨b, off, rfl, ?_, fun i hi => ?_⟩
      · have := cell_lt hc; rwa [hadd] at this
      · have h3 := (hf (i / 2) (by omega)).2 (i % 2) (Nat.mod_lt _ (by decide))
        rw [hadd, show i / 2 * 2 + i % 2 = i by omega] at h3
        rw [h3]
        unfold osts
        rw [hg _ (by omega)]
        have hcase : i % 2 = 0 ∨ i % 2 = 1 := by omega
        rcases hcase with h | h <;> rw [h] <;> rfl

end Go.Proofs.YtjfedpblkejmkaaGreat

/-
  The arguments of the statements of chapter 3, opened: a list of states.
-/
namespace Go.Proofs.YtjfedpblkejmkaaGreat
open Go.ChangeShapes Go.WideShapes Go.ChangeAt Go.RowKit

set_option maxRecDepth 100000 in
theorem open_stl {H : Type} {enc : TypeId × Value → H} {W : World} {v : Value} {d : DataW H} {p : List MemPlace} {base : Nat} (hv : Value.okWide Tryz.prog W .any base 49 v) (h : DataW.Trod enc Tryz.prog W 0 (fun _ => true) true 49 v d p) :
    ∃ (ms : List OSt) (a : Option Addr) (cap : Nat), v = .slice a ms.length cap ∧ Reads W a (ms.length * 2) (osts ms) ∧ ∀ k, k < ms.length → StW (sg ms k) := by
  obtain ⟨a0, len0, cap0, rfl⟩ := okWide_slice Tryz.underlying49 hv
  obtain ⟨fuel, hf⟩ := h
  obtain ⟨ms, a, cap, hcs, -, -, hr, hw⟩ := open_states' hf
  simp [Value.cells] at hcs
  obtain ⟨rfl, rfl, rfl⟩ := hcs
  exact ⟨ms, a0, cap0, rfl, hr, hw⟩

end Go.Proofs.YtjfedpblkejmkaaGreat

/-
  Plain laws of classes: pressures are compared as volumes; the lowest pressure.
-/
namespace Go.Proofs.YtjfedpblkejmkaaGreat
open Go.RowKit

theorem less_up {l : List (Int × Int)} {v u : Int} (h : PtsOk l) (v0 : 0 ≤ v) (v1 : v ≤ capV l) (u0 : 0 ≤ u) (u1 : u ≤ capV l) : lessQ (prQ l v) (prQ l u) = decide (v < u) := by
  unfold lessQ
  by_cases hlt : v < u
  · rw [decide_eq_true hlt, decide_eq_true (prQ_up h v0 hlt u1)]
  · rw [decide_eq_false hlt]
    refine decide_eq_false fun hn => ?_
    rcases Int.lt_or_eq_of_le (show u ≤ v by omega) with h2 | h2
    · have := prQ_up h u0 h2 v1
      rw [Int.mul_comm (prQ l u).1, Int.mul_comm (prQ l v).1] at this
      have e1 := Int.mul_comm (prQ l u).1 (prQ l v).2
      have e2 := Int.mul_comm (prQ l v).1 (prQ l u).2
      omega
    · subst h2
      exact Int.lt_irrefl _ hn
/-- One level: the lowest volume so far, and its tick. -/
def lowD (tick : Int) (s : Int × Int) (a : OSt × List Int) : Int × Int := if a.1.1 < s.2 then (tick, a.1.1) else s
def lowL (tick : Int) (s : Int × Int) (now : List (OSt × List Int)) : Int × Int := now.foldl (lowD tick) s
/-- All levels: none if some demands empty the plant. -/
def lowF : Int → (Int × Int) → List (List (OSt × List Int) × Option (List Int)) → Option (Int × Int)
  | _, s, [] => some s
  | tick, s, (now, none) :: l => lowF (tick + 1) (lowL tick s now) l
  | _, _, (_, some _) :: _ => none
end Go.Proofs.YtjfedpblkejmkaaGreat

/-
  Plain laws of classes: each state of a level is reached by its demands, and every demands of the class lead to a state of the level.
-/
namespace Go.Proofs.YtjfedpblkejmkaaGreat
open Go.RowKit

/-- Where demands lead to; none if one empties the plant. -/
def goQ (p : Plt) : OSt → List Int → Option OSt
  | s, [] => some s
  | s, d :: ds => (nxtA p s d).bind fun t => goQ p t ds
theorem goQ_app (p : Plt) : ∀ (ds es : List Int) (s : OSt), goQ p s (ds ++ es) = (goQ p s ds).bind fun t => goQ p t es
  | [], es, s => rfl
  | d :: ds, es, s => by
    show (nxtA p s d).bind (fun t => goQ p t (ds ++ es)) = ((nxtA p s d).bind fun t => goQ p t ds).bind _
    cases nxtA p s d with
    | none => rfl
    | some t => exact goQ_app p ds es t
theorem goQ_snoc (p : Plt) (ds : List Int) (n : Int) (s : OSt) : goQ p s (ds ++ [n]) = (goQ p s ds).bind fun t => nxtA p t n := by
  rw [goQ_app]
  congr 1
  funext t
  show (nxtA p t n).bind (fun t => some t) = _
  cases nxtA p t n <;> rfl
/-- Demands of a class. -/
def inC (c : List (Int × Int)) (ds : List Int) : Prop := ds.length = c.length ∧ ∀ i, i < c.length → gi ds i ∈ rngL (fg c i)
theorem inC_nil {ds : List Int} : inC [] ds ↔ ds = [] := by
  unfold inC
  constructor
  · intro h; exact List.length_eq_zero_iff.1 h.1
  · rintro rfl; exact ⟨rfl, fun i hi => by simp at hi⟩
theorem gi_app1 {l m : List Int} {i : Nat} (h : i < l.length) : gi (l ++ m) i = gi l i := by
  unfold gi
  rw [List.getD_eq_getElem?_getD, List.getD_eq_getElem?_getD, List.getElem?_append_left h]
theorem gi_app2 {l : List Int} (x : Int) : gi (l ++ [x]) l.length = x := by
  unfold gi
  rw [List.getD_eq_getElem?_getD, List.getElem?_append_right (Nat.le_refl _), Nat.sub_self]; rfl
theorem fg_snoc1 {l : List (Int × Int)} {r : Int × Int} {i : Nat} (h : i < l.length) : fg (l ++ [r]) i = fg l i := by
  unfold fg
  rw [List.getD_eq_getElem?_getD, List.getD_eq_getElem?_getD, List.getElem?_append_left h]
theorem fg_snoc2 (l : List (Int × Int)) (r : Int × Int) : fg (l ++ [r]) l.length = r := by
  unfold fg
  rw [List.getD_eq_getElem?_getD, List.getElem?_append_right (Nat.le_refl _), Nat.sub_self]; rfl
theorem inC_snoc {c : List (Int × Int)} {r : Int × Int} {ds : List Int} : inC (c ++ [r]) ds ↔ ∃ es n, ds = es ++ [n] ∧ inC c es ∧ n ∈ rngL r := by
  unfold inC
  rw [List.length_append, List.length_singleton]
  constructor
  · rintro ⟨hl, h⟩
    have hne : ds ≠ [] := fun e => by rw [e] at hl; simp at hl
    obtain ⟨es, n, e⟩ : ∃ es n, ds = es ++ [n] := ⟨ds.dropLast, ds.getLast hne, (List.dropLast_concat_getLast hne).symm⟩
    subst e
    rw [List.length_append, List.length_singleton] at hl
    have hl' : es.length = c.length := by omega
    refine ⟨es, n, rfl, ⟨hl', fun i hi => ?_⟩, ?_⟩
    · have := h i (by omega)
      rwa [gi_app1 (by omega), fg_snoc1 hi] at this
    · have := h c.length (by omega)
      rwa [fg_snoc2, ← hl', gi_app2] at this
  · rintro ⟨es, n, rfl, ⟨hl, h⟩, hn⟩
    rw [List.length_append, List.length_singleton]
    refine ⟨by omega, fun i hi => ?_⟩
    by_cases hic : i < c.length
    · rw [gi_app1 (by omega), fg_snoc1 hic]; exact h i hic
    · obtain rfl : i = c.length := by omega
      rw [fg_snoc2, ← hl, gi_app2]; exact hn
/-- Each state is reached by its demands. -/
def LvA (p : Plt) (s : OSt) (c : List (Int × Int)) (now : List (OSt × List Int)) : Prop := ∀ a ∈ now, inC c a.2 ∧ goQ p s a.2 = some a.1
/-- A whole level. -/
structure LvOk (p : Plt) (s : OSt) (c : List (Int × Int)) (now : List (OSt × List Int)) : Prop where
  way : LvA p s c now
  all : ∀ ds, inC c ds → ∃ t, goQ p s ds = some t ∧ t ∈ sts now
  nd : (sts now).Nodup
theorem LvOk.start (p : Plt) (s : OSt) : LvOk p s [] [(s, [])] :=
  ⟨fun a ha => by
    have : a = (s, []) := by simpa using ha
    subst this; exact ⟨inC_nil.2 rfl, rfl⟩, fun ds h => by rw [inC_nil.1 h]; exact ⟨s, rfl, by simp [sts]⟩, by simp [sts]⟩
/-- What holds while the next level is found. -/
def StpA (p : Plt) (s : OSt) (c : List (Int × Int)) (k : Tks) : Prop := LvA p s c k.aft ∧ ∀ e, k.emp = some e → inC c e ∧ goQ p s e = none ∧ ∃ es n t, e = es ++ [n] ∧ goQ p s es = some t
theorem tkD_way {p : Plt} {s : OSt} {c : List (Int × Int)} {r : Int × Int} {a : OSt × List Int} {k : Tks} {n : Int} (ha : inC c a.2 ∧ goQ p s a.2 = some a.1) (hn : n ∈ rngL r) (h : StpA p s (c ++ [r]) k) : StpA p s (c ++ [r]) (tkD p a k n) := by
  obtain ⟨h1, h2⟩ := h
  have hin : inC (c ++ [r]) (a.2 ++ [n]) := inC_snoc.2 ⟨a.2, n, rfl, ha.1, hn⟩
  have hgo : goQ p s (a.2 ++ [n]) = nxtA p a.1 n := by rw [goQ_snoc, ha.2]; rfl
  unfold tkD
  cases e : nxtA p a.1 n with
  | none =>
    refine ⟨h1, fun x hx => ?_⟩
    dsimp only at hx
    cases hk : k.emp with
    | none =>
      rw [hk] at hx
      cases hx
      exact ⟨hin, by rw [hgo, e], a.2, n, a.1, rfl, ha.2⟩
    | some y =>
      rw [hk] at hx
      cases hx
      exact h2 _ hk
  | some t =>
    dsimp only
    split
    · exact ⟨h1, h2⟩
    · refine ⟨fun b hb => ?_, h2⟩
      rcases List.mem_append.1 hb with hb | hb
      · exact h1 b hb
      · have : b = (t, a.2 ++ [n]) := by simpa using hb
        subst this
        exact ⟨hin, by rw [hgo, e]⟩
theorem foldD_way {p : Plt} {s : OSt} {c : List (Int × Int)} {r : Int × Int} {a : OSt × List Int} (ha : inC c a.2 ∧ goQ p s a.2 = some a.1) : ∀ (l : List Int) (k : Tks), (∀ n ∈ l, n ∈ rngL r) → StpA p s (c ++ [r]) k → StpA p s (c ++ [r]) (l.foldl (tkD p a) k)
  | [], _, _, h => h
  | n :: l, _, hl, h => foldD_way ha l _ (fun m hm => hl m (List.mem_cons_of_mem _ hm)) (tkD_way ha (hl n (List.mem_cons_self ..)) h)
theorem foldR_way {p : Plt} {s : OSt} {c : List (Int × Int)} {r : Int × Int} : ∀ (now : List (OSt × List Int)) (k : Tks), LvA p s c now → StpA p s (c ++ [r]) k → StpA p s (c ++ [r]) (now.foldl (tkR p r) k)
  | [], _, _, h => h
  | a :: now, _, hl, h => foldR_way now _ (fun b hb => hl b (List.mem_cons_of_mem _ hb)) (foldD_way (hl a (List.mem_cons_self ..)) (rngL r) _ (fun _ h => h) h)
theorem tkL_way {p : Plt} {s : OSt} {c : List (Int × Int)} {r : Int × Int} {now : List (OSt × List Int)} (h : LvA p s c now) : StpA p s (c ++ [r]) (tkL p r now) :=
  foldR_way now _ h ⟨fun _ ha => (by cases ha), fun _ he => (by cases he)⟩
/-- The next level, if nothing empties the plant. -/
theorem LvOk.next {p : Plt} {s : OSt} {c : List (Int × Int)} {r : Int × Int} {now : List (OSt × List Int)} (h : LvOk p s c now) (he : (tkL p r now).emp = none) : LvOk p s (c ++ [r]) (tkL p r now).aft := by
  obtain ⟨h1, h2, h3⟩ := foldR_all (p := p) (r := r) now ⟨[], none⟩
  refine ⟨(tkL_way h.way).1, fun ds hds => ?_, h3 (by simp [sts])⟩
  obtain ⟨es, n, rfl, he1, hn⟩ := inC_snoc.1 hds
  obtain ⟨t, ht, htn⟩ := h.all es he1
  have hno : ¬ Emp p r (sts now) := (h2.1 he).2
  cases e : nxtA p t n with
  | none => exact absurd ⟨t, htn, n, hn, e⟩ hno
  | some u =>
    refine ⟨u, by rw [goQ_snoc, ht]; exact e, ?_⟩
    exact (h1 u).2 (.inr ⟨t, htn, n, hn, e⟩)
end Go.Proofs.YtjfedpblkejmkaaGreat

/-
  Plain laws of classes: the witness, and what it says.
-/
namespace Go.Proofs.YtjfedpblkejmkaaGreat
open Go.RowKit

/-- Is the pressure of a state below a limit? -/
def blwQ (p : Plt) (lim : Int) (t : OSt) : Bool := lessQ (prQ p.pts t.1) (lim, 1)
/-- slices.Compare. -/
def cmpL : List Int → List Int → Int
  | [], [] => 0
  | [], _ :: _ => -1
  | _ :: _, [] => 1
  | a :: l, b :: m => if a < b then -1 else if b < a then 1 else cmpL l m
/-- The program's witness. -/
def witA (p : Plt) (lim : Int) : List (List (OSt × List Int) × Option (List Int)) → Option (List Int)
  | [] => none
  | (now, emp) :: l => match now.find? (fun a => blwQ p lim a.1), emp with
    | some a, none => some a.2
    | some a, some e => if cmpL a.2 e < 0 then some a.2 else some e
    | none, some e => some e
    | none, none => witA p lim l
end Go.Proofs.YtjfedpblkejmkaaGreat

/-
  Plain laws of classes: the references' sets of states, the lowest pressure, and whether a class is permitted, are the program's.
-/
namespace Go.Proofs.YtjfedpblkejmkaaGreat
open Go.RowKit

def EmpB (p : Plt) (r : Int × Int) (l : List OSt) : Bool := l.any fun s => (rngL r).any fun n => (nxtA p s n).isNone
end Go.Proofs.YtjfedpblkejmkaaGreat

