/-
  Texts of this claim, in their build order: Lib A1 A2 A3 A5 Lib2 A6 Lib3.
-/
import Derived.StillTail
import Derived.Deep.QuietTactic
import Derived.WalkKit
import Derived.WalkSpells
import Derived.WalkLawsBesides
import Derived.KernelRfl
import Derived.Test.YtbpcapcgbnbknaaGreatProg
import Derived.Lib.Hide
import Derived.Outline
import Derived.Deep.DeepCutAuto
import Derived.Laws.CopyOwn
import Derived.Deep.RegionHeld3
import Derived.RangeFuncNested
import Derived.RangeFuncBound
import Derived.RangeFuncCalls
import Derived.RangeFuncLeaves
import Derived.RangeFuncBox
import Derived.OwnWalkIn
import Derived.TacticsInMore
import Derived.LoopNIn
import Derived.LoopIn
import Derived.OrdersIn
import Derived.Maps.AppendAt

namespace Go.Proofs.YtbpcapcgbnbknaaGreat
section
open Go.RowKit

section
variable {P : Program} {ops : Array Oper} {md : Region.Mode} {C : World → Prop}

/-- Whatever order is picked, for so many operations, all before the tail. -/
def wpAnyQL (P : Program) (md : Region.Mode) (ops : Array Oper) (C : World → Prop) (n : Nat) (L : Array Bool → Act → Prop) : Nat → Array Bool → Act → Prop
  | 0, listed, a => L listed a
  | f + 1, listed, a =>
    Region.ready md ops listed ≠ [] ∧ ∀ i ∈ Region.ready md ops listed, i < n ∧ qOp P ops C i (wpAnyQL P md ops C n L f (listed.setIfInBounds i true)) a

theorem wpAny_of_qhead {n g : Nat} {L : Array Bool → Act → Prop} {Q' : Exit → Act → World → Prop} (hL : ∀ listed a w, C w → L listed a → wpAny P md ops Q' g listed a w) :
    ∀ (f : Nat) (listed : Array Bool) (a : Act) (w : World), C w → wpAnyQL P md ops C n L f listed a → wpAny P md ops Q' (f + g) listed a w
  | 0, listed, a, w, hw, h => by rw [Nat.zero_add]; exact hL _ _ _ hw h
  | f + 1, listed, a, w, hw, h => by
    rw [show f + 1 + g = (f + g) + 1 by omega]
    exact ⟨fun h0 => absurd h0 h.1, fun i hi => wpOp_of_qOp hw (fun a' w' hw' h' => wpAny_of_qhead hL f _ a' w' hw' h') (h.2 i hi).2⟩

theorem wpAnyQL_first {n i : Nat} {oi : Oper} {v : Value} {L : Array Bool → Act → Prop} (hi : ops[i]? = some oi) (hsel : ∀ (j : Nat) (o : Oper) cs b, ops[j]? = some o → o.op ≠ .select cs b)
    (hs : Region.sinkB md ops n = true) (hc : Region.chainB md ops n = true) (hn : n < ops.size) (hin : i < n)
    (hdone : ∀ listed a, L listed a → ∀ j ∈ Region.ready md ops listed, n ≤ j) :
    ∀ (f : Nat) (listed : Array Bool) (a : Act), HeadInv md ops n listed →
      (∀ j oj, ops[j]? = some oj → j ≠ i → listed.getD j true = false → (∀ e ∈ oj.after, Region.binds md e = true → e.on ≠ i) → oi.apart ops oj = true) →
      i ∈ Region.ready md ops listed → YieldsIn P ops C oi v a →
      wpAnyQL P md ops C n L f (listed.setIfInBounds i true) (a.put oi.dst v) → wpAnyQL P md ops C n L (f + 1) listed a := by
  intro f
  induction f with
  | zero =>
    intro listed a inv _ hr hy H
    have hun := (mem_ready.1 hr).1
    refine ⟨fun h => (by rw [h] at hr; cases hr), fun j hj => ?_⟩
    have hjn : j < n := by
      rcases Nat.lt_or_ge j n with h | h
      · exact h
      · exact absurd hj (tail_waits hs hc hn inv _ i rfl hin hun j h)
    refine ⟨hjn, ?_⟩
    by_cases hji : j = i
    · subst hji; exact hy.qOp hi H
    · have := hdone _ _ H j (ready_mono hj hji)
      omega
  | succ f ih =>
    intro listed a inv hfree hr hy H
    have hun := (mem_ready.1 hr).1
    refine ⟨fun h => (by rw [h] at hr; cases hr), fun j hj => ?_⟩
    have hjn : j < n := by
      rcases Nat.lt_or_ge j n with h | h
      · exact h
      · exact absurd hj (tail_waits hs hc hn inv _ i rfl hin hun j h)
    refine ⟨hjn, ?_⟩
    by_cases hji : j = i
    · subst hji; exact hy.qOp hi H
    · have h1 := (H.2 j (ready_mono hj hji)).2
      obtain ⟨hjun, oj, hoj, hall⟩ := mem_ready.1 hj
      have hnot : ∀ e ∈ oj.after, Region.binds md e = true → e.on ≠ i := fun e he hb heq => by
        have h1 := hall e he hb
        rw [heq, getD_both hun] at h1
        cases h1
      have h2 := qOp_put hoj (hfree j oj hoj hji hjun hnot) (fun cs b => hsel i oi cs b hi) (fun cs b => hsel j oj cs b hoj) hy h1
      have hfree' : ∀ k ok, ops[k]? = some ok → k ≠ i → (listed.setIfInBounds j true).getD k true = false →
          (∀ e ∈ ok.after, Region.binds md e = true → e.on ≠ i) → oi.apart ops ok = true := fun k ok hk hki hun hno => by
        refine hfree k ok hk hki ?_ hno
        by_cases hjk : j = k
        · subst hjk; exact hjun
        · rw [getD_set_ne true hjk] at hun; exact hun
      refine qOp_mono (fun a' h3 => ih (listed.setIfInBounds j true) a' (inv.set hj hjn) hfree' (ready_mono hr (Ne.symm hji)) h3.1 ?_) h2
      rw [Array.setIfInBounds_comm _ _ hji]
      exact h3.2

theorem wpAnyQL_lex {n g : Nat} {Lq : Act → Prop} (hsel : Region.noSelect ops = true) (hs : Region.sinkB md ops n = true) (hc : Region.chainB md ops n = true) (hn : n < ops.size) :
    ∀ (l : List Oper) (k : Nat) (listed : Array Bool) (a : Act), (∀ j, j < l.length → l[j]? = ops[k + j]?) → k + l.length = n → HeadInv md ops n listed →
    Region.lexHead md ops g l.length k listed = true → wpQuiet P ops C Lq l a →
    wpAnyQL P md ops C n (fun listed' a' => Region.seqB md ops g n listed' = true ∧ Lq a') l.length listed a
  | [], k, listed, a, _, hk, _, hB, h => by
    have : k = n := by simpa using hk
    subst this
    exact ⟨by simpa [Region.lexHead] using hB, h⟩
  | o :: l, k, listed, a, hl, hk, inv, hB, h => by
    have h0 : ops[k]? = some o := by simpa using (hl 0 (by simp)).symm
    simp only [List.length_cons, Region.lexHead, Bool.and_eq_true] at hB
    obtain ⟨⟨hr, hf⟩, hB'⟩ := hB
    have hkn : k < n := by simp only [List.length_cons] at hk; omega
    have hr' : k ∈ Region.ready md ops listed := by simpa using hr
    have hst : qOp P ops C k (wpQuiet P ops C Lq l) a := by unfold qOp; simp only [h0]; exact h
    obtain ⟨v, hy, hK⟩ := yieldsIn_of_qOp h0 hst
    exact wpAnyQL_first h0 (Region.noSelect_spec hsel) hs hc hn hkn (fun listed' a' hL => seqB_ready hL.1) l.length listed a inv (Region.free_spec h0 hf) hr' hy
      (wpAnyQL_lex hsel hs hc hn l (k + 1) _ _ (fun j hj => by have := hl (j + 1) (by simp; omega); simpa [Nat.add_assoc, Nat.add_comm 1 j] using this) (by simp only [List.length_cons] at hk; omega) (inv.set hr' hkn) hB' hK)

/-- A region that draws its order: the first n operations keep the class, whatever the order; the others follow in one forced order. -/
theorem wp_region_quiet_tail {id : Nat} {Q : Exit → Act → World → Prop} {a : Act} {w : World} {l : List Oper} (n : Nat) (C : World → Prop) (hm : P.follows .mixedOrders = true) (hB : Region.lexTailB .any l.toArray n = true)
    (hC : C { w with drawn := w.drawn + 1 })
    (h : wpQuiet P l.toArray C (fun a' => ∀ w', C w' → wpList P l.toArray Q (l.drop n) a' w') (l.take n) a) : (Code.region id l.toArray true).wp P Q a w := by
  simp only [Region.lexTailB, Bool.and_eq_true, decide_eq_true_eq] at hB
  obtain ⟨⟨⟨⟨hsel, hn⟩, hs⟩, hc⟩, hlex⟩ := hB
  have hn' : n < l.length := by simpa using hn
  have htl : (l.take n).length = n := by simp; omega
  have hdl : (l.drop n).length = l.toArray.size - n := by simp
  have inv0 : HeadInv .any l.toArray n (Array.replicate l.toArray.size false) :=
    ⟨by simp, fun j oj _ hl => (by rw [getD_replicate_false] at hl; cases hl), fun t _ ht => getD_in (by simpa using ht) (getD_replicate_false _ _)⟩
  have H := wpAnyQL_lex (md := .any) (g := l.toArray.size - n) hsel hs hc hn (l.take n) 0 _ a (fun j hj => by
    have hj' : j < n := by rw [htl] at hj; exact hj
    simp [hj']) (by simpa using htl) inv0 (by rw [htl]; exact hlex) h
  refine wp_region_any hm ?_
  have := wpAny_of_qhead (C := C) (Q' := Q) (g := l.toArray.size - n) (fun listed a' w' hw' hL => by
    have := wpAny_of_seq (md := .any) (Q' := Q) (l.drop n) n listed a' w' (fun j => by simp [List.getElem?_drop]) (by rw [hdl]; exact hL.1) (hL.2 w' hw')
    rwa [hdl] at this) _ _ _ _ hC H
  rw [htl, show n + (l.toArray.size - n) = l.toArray.size by omega] at this
  exact this

/-- The same without a tail. -/
theorem wp_region_quiet_all {id : Nat} {Q : Exit → Act → World → Prop} {a : Act} {w : World} {l : List Oper} (C : World → Prop) (hm : P.follows .mixedOrders = true) (hB : Region.lexB .any l.toArray = true)
    (hC : C { w with drawn := w.drawn + 1 })
    (h : wpQuiet P l.toArray C (fun a' => ∀ w', C w' → Q .normal a' w') l a) : (Code.region id l.toArray true).wp P Q a w :=
  wp_region_quiet (C := C) hm hB hC (by simpa using h)

/-- One operation that is not wanted, and one that is. -/
theorem wpQuiet_no {Q : Act → Prop} {a : Act} {o : Oper} {rest : List Oper} (hw : Region.wanted o (yielded ops a.tmps) = false) (h : wpQuiet P ops C Q rest (a.put o.dst undef)) : wpQuiet P ops C Q (o :: rest) a := by
  unfold wpQuiet; rw [if_neg (by rw [hw]; simp)]; exact h
theorem wpQuiet_yes {Q : Act → Prop} {a : Act} {o : Oper} {rest : List Oper} (hw : Region.wanted o (yielded ops a.tmps) = true)
    (h : ∃ v, (∀ w, C w → o.quietAt P a C w v) ∧ wpQuiet P ops C Q rest (a.put o.dst v)) : wpQuiet P ops C Q (o :: rest) a := by
  unfold wpQuiet; rw [if_pos hw]; exact h
end

/-- An element of a list, closed to simp. -/
def gi (l : List Int) (i : Nat) : Int := l.getD i 0
theorem gi_lt {l : List Int} {i : Nat} (h : i < l.length) : gi l i = l[i] := by simp [gi, h]
theorem gi_drop (l : List Int) (k : Nat) (hk : k < l.length) : l.drop k = gi l k :: l.drop (k + 1) := by rw [List.drop_eq_getElem_cons hk, gi_lt hk]
theorem gi_take (l : List Int) (k : Nat) (hk : k < l.length) : l.take (k + 1) = l.take k ++ [gi l k] := by rw [List.take_succ_eq_append_getElem hk, gi_lt hk]
theorem ret_bool {a b : Bool} (h : a = b) : Ending.returned (.bool a) = .returned (.bool b) := by rw [h]
theorem ret_int {k : IntKind} {a b : Int} (h : a = b) : Ending.returned (.int k a) = .returned (.int k b) := by rw [h]

/-- A slice's m cells read as f. -/
def Reads (w : World) (a : Option Addr) (m : Nat) (f : Nat → Value) : Prop :=
  m = 0 ∨ ∃ b off, a = some ⟨b, off, none⟩ ∧ b < w.heap.size ∧ ∀ i, i < m → w.cell? ⟨b, off + i, none⟩ = some (f i)
theorem Reads.below {B : Nat} {w w' : World} {a : Option Addr} {m : Nat} {f : Nat → Value} (h : Reads w a m f) (hb : Below B w w') (hB : w.heap.size ≤ B) : Reads w' a m f := by
  rcases h with h | ⟨b, off, ha, hlt, hc⟩
  · exact .inl h
  · exact .inr ⟨b, off, ha, Nat.lt_of_lt_of_le hlt hb.size, fun i hi => by rw [hb.cell (p := ⟨b, off + i, none⟩) (Nat.lt_of_lt_of_le hlt hB)]; exact hc i hi⟩
theorem Reads.to {w w' : World} {a : Option Addr} {m : Nat} {f : Nat → Value} (h : Reads w a m f) (hb : Below w.heap.size w w') : Reads w' a m f := h.below hb (Nat.le_refl _)
theorem Reads.alloc {w : World} {a : Option Addr} {m : Nat} {f : Nat → Value} (h : Reads w a m f) (o : Obj) : Reads (w.alloc o) a m f := h.to ((Below.refl _ _).alloc (Nat.le_refl _) _)
/-- The cells of a slice that has one. -/
theorem Reads.at {w : World} {a : Option Addr} {m : Nat} {f : Nat → Value} (h : Reads w a m f) {k : Nat} (hk : k < m) :
    ∃ b off, a = some ⟨b, off, none⟩ ∧ b < w.heap.size ∧ ∀ i, i < m → w.cell? ⟨b, off + i, none⟩ = some (f i) := by
  rcases h with h | h
  · omega
  · exact h
/-- The cells of whole numbers. -/
def ints (zs : List Int) : Nat → Value := fun i => .int .i64 (gi zs i)

/-- The first error of items, with its index. -/
def eachR (err : Nat → Int) : Nat → Nat → Int × Int
  | _, 0 => (0, 0)
  | k, m + 1 => if err k = 0 then eachR err (k + 1) m else ((k : Int), err k)
theorem eachR_step {err : Nat → Int} {k n : Nat} (h : k < n) (h0 : err k = 0) : eachR err k (n - k) = eachR err (k + 1) (n - (k + 1)) := by
  obtain ⟨m, hm⟩ : ∃ m, n - k = m + 1 := ⟨n - k - 1, by omega⟩
  rw [hm, eachR, if_pos h0, show n - (k + 1) = m by omega]
theorem eachR_stop {err : Nat → Int} {k n : Nat} (h : k < n) (h0 : ¬ err k = 0) : eachR err k (n - k) = ((k : Int), err k) := by
  obtain ⟨m, hm⟩ : ∃ m, n - k = m + 1 := ⟨n - k - 1, by omega⟩
  rw [hm, eachR, if_neg h0]

theorem bcell {B : Nat} {W w1 : World} (hb : Below B W w1) : (∀ b o, b < B → w1.cell? ⟨b, o, none⟩ = W.cell? ⟨b, o, none⟩) ∧ (∀ b o, b < B → w1.frozen? ⟨b, o, none⟩ = W.frozen? ⟨b, o, none⟩) :=
  ⟨fun b o h => hb.cell (p := ⟨b, o, none⟩) h, fun b o h => hb.frozen (p := ⟨b, o, none⟩) h⟩
end
section
open Go.RowKit

/-- 0 if it is so, else the error. -/
def unl (b : Bool) (k : Int) : Int := if b then 0 else k
/-- The first number of a list that is not 0. -/
def firstE : List Int → Int
  | [] => 0
  | e :: l => if e = 0 then firstE l else e

theorem firstE_drop (es : List Int) (k : Nat) (hk : k < es.length) : firstE (es.drop k) = if gi es k = 0 then firstE (es.drop (k+1)) else gi es k := by
  rw [gi_drop es k hk]; rfl

theorem bWithin_any (n lo hi : Int) (w : World) :
    Calls Tryz.prog 60 #[.int .i64 n, .int .i64 lo, .int .i64 hi] w fun e w' => e = .returned (.bool (decide (lo ≤ n) && decide (n ≤ hi))) ∧ w = w' := by
  go_enter Tryz.func60, Tryz.ntmps60
  go_wp2
  all_goals (go_ret; exact ⟨ret_bool (by simp; omega), rfl⟩)
end
section
open Go.RowKit

/-- A test, as data. -/
structure HT where
  m : Int
  d : Int
  c : Int
  s : Int
  dl : Int
  cp : Bool
  b : Int
  lo : Int
  hi : Int

abbrev HT.cells (x : HT) : Array Value := #[.int .i64 x.m, .int .i64 x.d, .int .i64 x.c, .int .i64 x.s, .int .i64 x.dl, .bool x.cp, .int .i64 x.b, .int .i64 x.lo, .int .i64 x.hi]

/-- What a valid test is. -/
structure HT.ok (x : HT) : Prop where
  m1 : 1 ≤ x.m
  m2 : x.m ≤ 1000
  d1 : 0 ≤ x.d
  d2 : x.d ≤ 1000
  c1 : 0 ≤ x.c
  c2 : x.c ≤ 1000
  s1 : 0 ≤ x.s
  s2 : x.s ≤ 1000
  dl1 : 0 ≤ x.dl
  dl2 : x.dl ≤ 2
  b1 : 0 ≤ x.b
  b2 : x.b ≤ 3
  lo1 : -1000 ≤ x.lo
  lo2 : x.lo ≤ 1000
  hi1 : -1000 ≤ x.hi
  hi2 : x.hi ≤ 1000
  ord : x.lo ≤ x.hi
  few : x.hi - x.lo < 9
end
section
open Go.RowKit

theorem tuple2_eq {a b c d : Value} (h : a = c) (h' : b = d) : Ending.returned (.tuple #[a, b]) = .returned (.tuple #[c, d]) := by rw [h, h']
end
section
open Go.RowKit

theorem mul_bd {a b A B : Int} (h1 : -A ≤ a) (h2 : a ≤ A) (h3 : -B ≤ b) (h4 : b ≤ B) : -(A * B) ≤ a * b ∧ a * b ≤ A * B := by
  have hA : 0 ≤ A := by omega
  have hB : 0 ≤ B := by omega
  have e : (a * b).natAbs ≤ (A * B).natAbs := by
    rw [Int.natAbs_mul, Int.natAbs_mul]
    exact Nat.mul_le_mul (by omega) (by omega)
  have h5 : 0 ≤ A * B := Int.mul_nonneg hA hB
  omega

/-- A number without its sign. -/
def sizeI (n : Int) : Int := max n (-n)
theorem Size_any (n : Int) (w : World) (h1 : -9000000000000000000 ≤ n) (h2 : n ≤ 9000000000000000000) :
    Calls Tryz.prog 151 #[.int .i64 n] w fun e w' => e = .returned (.int .i64 (sizeI n)) ∧ w = w' := by
  go_enter Tryz.func151, Tryz.ntmps151
  go_wp2
  all_goals (go_ret; exact ⟨ret_int (by unfold sizeI; omega), rfl⟩)

/-- The command of the step so many steps ago, of a state as a list. -/
def cmdV (x : HT) (a : List Int) (g : Nat) : Int := if x.cp then gi a g + x.dl * (gi a g - gi a (g + 1)) else gi a g
end
section
open Go.RowKit

/-- Block b holds these cells, none of them frozen. -/
def Blk (w : World) (b : Nat) (cs : Array Value) : Prop :=
  b < w.heap.size ∧ (∀ o, w.cell? ⟨b, o, none⟩ = cs[o]?) ∧ (∀ o, w.frozen? ⟨b, o, none⟩ = false)

theorem Blk.below {B : Nat} {w w' : World} {b : Nat} {cs : Array Value} (h : Blk w b cs) (hb : Below B w w') (hB : b < B) : Blk w' b cs :=
  ⟨Nat.lt_of_lt_of_le h.1 hb.size, fun o => (hb.cell (p := ⟨b, o, none⟩) hB).trans (h.2.1 o), fun o => (hb.frozen (p := ⟨b, o, none⟩) hB).trans (h.2.2 o)⟩
theorem Blk.to {w w' : World} {b : Nat} {cs : Array Value} (h : Blk w b cs) (hb : Below w.heap.size w w') : Blk w' b cs := h.below hb h.1
theorem Blk.alloc {w : World} {b : Nat} {cs : Array Value} (h : Blk w b cs) (o : Obj) : Blk (w.alloc o) b cs := h.to ((Below.refl _ _).alloc (Nat.le_refl _) _)
theorem Blk.drew {w : World} {b : Nat} {cs : Array Value} (h : Blk w b cs) : Blk w.drew b cs := h
theorem Blk.new (w : World) (cs : Array Value) (T : TypeId) : Blk (w.alloc (.cells cs T)) w.heap.size cs :=
  have hh : (w.alloc (.cells cs T)).heap[w.heap.size]? = some (.cells cs T (0, 0)) := by
    show (w.heap.push _)[w.heap.size]? = _
    simp
  ⟨by simp, fun o => by unfold World.cell?; simp only [hh]; rfl, fun o => by unfold World.frozen?; simp only [hh]; simp⟩
theorem Blk.newAt (w : World) (cs : Array Value) (T : TypeId) {B : Nat} (h : w.heap.size = B) : Blk (w.alloc (.cells cs T)) B cs := by subst h; exact Blk.new w cs T
theorem Blk.other {w : World} {b : Nat} {cs : Array Value} (h : Blk w b cs) {p : Addr} (hp : p.block ≠ b) (v : Value) : Blk (w.setCell p v) b cs :=
  ⟨by simpa [World.setCell] using h.1, fun o => by rw [World.cell?_setCell_other _ _ _ _ (by intro e; rw [e] at hp; exact hp rfl)]; exact h.2.1 o, fun o => by rw [World.frozen?_setCell]; exact h.2.2 o⟩
theorem Blk.set {w : World} {b : Nat} {cs : Array Value} (h : Blk w b cs) (i : Nat) (v : Value) : Blk (w.setCell ⟨b, i, none⟩ v) b (cs.setIfInBounds i v) := by
  refine ⟨by simpa [World.setCell] using h.1, fun o => ?_, fun o => by rw [World.frozen?_setCell]; exact h.2.2 o⟩
  by_cases ho : o = i
  · subst ho
    by_cases hi : o < cs.size
    · have h1 : w.cell? ⟨b, o, none⟩ = some cs[o] := by rw [h.2.1 o]; simp [hi]
      rw [World.cell?_setCell_same _ _ _ h1]; simp [hi]
    · have h1 := h.2.1 o
      rw [Array.getElem?_eq_none (by omega)] at h1
      rw [Array.getElem?_eq_none (by simpa using hi)]
      unfold World.cell? at *
      simp only [World.setCell, Array.getElem?_modify, if_true] at *
      cases hh : w.heap[b]? with
      | none => simp
      | some ob =>
        rw [hh] at h1
        cases ob <;> simp_all
  · rw [World.cell?_setCell_other _ _ _ _ (by intro e; cases e; exact ho rfl), h.2.1 o, Array.getElem?_setIfInBounds_ne (by omega)]

theorem bAlloc {w W : World} (h : Below w.heap.size w W) (o : Obj) : Below w.heap.size w (W.alloc o) := h.alloc h.size o
theorem bThen {w W W' : World} (h : Below w.heap.size w W) (h' : Below W.heap.size W W') : Below w.heap.size w W' := h.trans (h'.mono h.size)
theorem bSelf (w : World) : Below w.heap.size w w := Below.refl _ _
end
section
open Go.RowKit

def pushV (x : HT) (a : List Int) (f : Int) : Int := f - x.d * (gi a 0 - gi a 1) - x.c * gi a 0 - x.s * cmdV x a x.dl.toNat
def nextV (x : HT) (a : List Int) (f : Int) : Int := 2 * gi a 0 - gi a 1 + pushV x a f / x.m

/-- The new state, out of the number that is put ahead of the elder ones. -/
def kp (x : HT) (j v : Int) : Int := if j ≤ x.dl then v else 0
def nextL (x : HT) (a : List Int) (n : Int) : List Int := [n, gi a 0, kp x 1 (gi a 1), kp x 2 (gi a 2)]
abbrev l4 (l : List Int) : Array Value := #[.int .i64 (gi l 0), .int .i64 (gi l 1), .int .i64 (gi l 2), .int .i64 (gi l 3)]
end
section
open Go.RowKit

/-- From W1 to W2 no block below B, and none of the set M, has turned. -/
structure Agree (B : Nat) (M : Nat → Prop) (W1 W2 : World) : Prop where
  os : W2.os = W1.os
  tape : W2.tape = W1.tape
  output : W2.output = W1.output
  size : W1.heap.size ≤ W2.heap.size
  low : ∀ k, k < B → W2.heap[k]? = W1.heap[k]?
  same : ∀ k, k < W1.heap.size → M k → W2.heap[k]? = W1.heap[k]?

theorem Agree.refl (B : Nat) (M : Nat → Prop) (W : World) : Agree B M W W := ⟨rfl, rfl, rfl, Nat.le_refl _, fun _ _ => rfl, fun _ _ _ => rfl⟩
theorem Agree.trans {B : Nat} {M : Nat → Prop} {a b c : World} (h : Agree B M a b) (k : Agree B M b c) : Agree B M a c :=
  ⟨k.os.trans h.os, k.tape.trans h.tape, k.output.trans h.output, Nat.le_trans h.size k.size, fun i hi => (k.low i hi).trans (h.low i hi), fun i hi hm => (k.same i (Nat.lt_of_lt_of_le hi h.size) hm).trans (h.same i hi hm)⟩
theorem Agree.below {B : Nat} {M : Nat → Prop} {a b : World} (h : Agree B M a b) : Below B a b := ⟨h.os, h.tape, h.output, h.size, h.low⟩
theorem Agree.mono {B B' : Nat} {M M' : Nat → Prop} {a b : World} (h : Agree B M a b) (hB : B' ≤ B) (hM : ∀ k, M' k → M k) : Agree B' M' a b :=
  ⟨h.os, h.tape, h.output, h.size, fun k hk => h.low k (Nat.lt_of_lt_of_le hk hB), fun k hk hm => h.same k hk (hM k hm)⟩
theorem Agree.of_below {B : Nat} {M : Nat → Prop} {a b : World} (h : Below a.heap.size a b) (hB : B ≤ a.heap.size) : Agree B M a b :=
  ⟨h.os, h.tape, h.output, h.size, fun k hk => h.block k (Nat.lt_of_lt_of_le hk hB), fun k hk _ => h.block k hk⟩
theorem Agree.setCell {B : Nat} {M : Nat → Prop} (W : World) (p : Addr) (v : Value) (hB : B ≤ p.block) (hM : ¬ M p.block) : Agree B M W (W.setCell p v) :=
  ⟨rfl, rfl, rfl, by simp [World.setCell], fun k hk => Below.heap_setCell _ _ _ _ (by omega), fun k _ hm => Below.heap_setCell _ _ _ _ (fun e => hM (e ▸ hm))⟩
theorem Agree.putObj {B : Nat} {M : Nat → Prop} (W : World) (l : Nat) (o : Obj) (hB : B ≤ l) (hM : ¬ M l) : Agree B M W (W.putObj l o) :=
  ⟨rfl, rfl, rfl, by simp, fun k hk => World.putObj_heap_other (by omega), fun k _ hm => World.putObj_heap_other (fun e => hM (e ▸ hm))⟩

/-- From W1 to W2 only blocks of M have been written; M' is what may be written from here on: of M, or new. -/
structure Upd (M M' : Nat → Prop) (W1 W2 : World) : Prop where
  os : W2.os = W1.os
  tape : W2.tape = W1.tape
  output : W2.output = W1.output
  size : W1.heap.size ≤ W2.heap.size
  same : ∀ k, k < W1.heap.size → ¬ M k → W2.heap[k]? = W1.heap[k]?
  grow : ∀ k, M' k → M k ∨ W1.heap.size ≤ k
  fit : ∀ k, M' k → k < W2.heap.size

theorem Upd.refl {M : Nat → Prop} {W : World} (hM : ∀ k, M k → k < W.heap.size) : Upd M M W W := ⟨rfl, rfl, rfl, Nat.le_refl _, fun _ _ _ => rfl, fun _ h => .inl h, hM⟩
theorem Upd.trans {M1 M2 M3 : Nat → Prop} {a b c : World} (h : Upd M1 M2 a b) (k : Upd M2 M3 b c) : Upd M1 M3 a c :=
  ⟨k.os.trans h.os, k.tape.trans h.tape, k.output.trans h.output, Nat.le_trans h.size k.size,
    fun i hi hm => (k.same i (Nat.lt_of_lt_of_le hi h.size) (fun h2 => (h.grow i h2).elim hm (fun h3 => by omega))).trans (h.same i hi hm),
    fun i hi => (k.grow i hi).elim (fun h2 => h.grow i h2) (fun h2 => .inr (Nat.le_trans h.size h2)), k.fit⟩
theorem Upd.alloc {M : Nat → Prop} {W : World} (hM : ∀ k, M k → k < W.heap.size) (o : Obj) : Upd M (fun k => M k ∨ k = W.heap.size) W (W.alloc o) :=
  ⟨rfl, rfl, rfl, by simp, fun k hk _ => Below.heap_alloc _ _ _ hk, fun k hk => hk.elim .inl (fun h => .inr (by omega)), fun k hk => by
    have : k < W.heap.size + 1 := hk.elim (fun h => by have := hM k h; omega) (fun h => by omega)
    simpa using this⟩
theorem Upd.setCell {M : Nat → Prop} {W : World} (hM : ∀ k, M k → k < W.heap.size) (p : Addr) (v : Value) (hp : M p.block) : Upd M M W (W.setCell p v) :=
  ⟨rfl, rfl, rfl, by simp [World.setCell], fun k _ hm => Below.heap_setCell _ _ _ _ (fun e => hm (e ▸ hp)), fun _ h => .inl h, fun k hk => by simpa [World.setCell] using hM k hk⟩
theorem Upd.of_below {M : Nat → Prop} {a b : World} (hM : ∀ k, M k → k < a.heap.size) (h : Below a.heap.size a b) : Upd M M a b :=
  ⟨h.os, h.tape, h.output, h.size, fun k hk _ => h.block k hk, fun _ h => .inl h, fun k hk => Nat.lt_of_lt_of_le (hM k hk) h.size⟩
theorem Upd.below {M M' : Nat → Prop} {a b : World} {B : Nat} (h : Upd M M' a b) (hB : B ≤ a.heap.size) (hM : ∀ k, M k → B ≤ k) : Below B a b :=
  ⟨h.os, h.tape, h.output, h.size, fun k hk => h.same k (Nat.lt_of_lt_of_le hk hB) (fun hm => by have := hM k hm; omega)⟩
theorem Upd.less {M M' M'' : Nat → Prop} {a b : World} (h : Upd M M' a b) (hl : ∀ k, M'' k → M' k) : Upd M M'' a b :=
  ⟨h.os, h.tape, h.output, h.size, h.same, fun k hk => h.grow k (hl k hk), fun k hk => h.fit k (hl k hk)⟩

/-- How the body of a round may be left. -/
def postM {α : Type} (I : List α → (Nat → Prop) → World → Prop) (Ix : Code → List α → World → Prop) (xs : List α) (M : Nat → Prop) (W : World) : Exit → Act → World → Prop
  | .normal, _, W' => ∃ M', I xs M' W' ∧ Upd M M' W W'
  | .ret, _, W' => ∃ M', Ix .ret xs W' ∧ Upd M M' W W'
  | .exit id, _, W' => ∃ M', Ix (.exit id) xs W' ∧ Upd M M' W W'
  | .goto t, _, W' => ∃ M', Ix (.goto t) xs W' ∧ Upd M M' W W'
  | .panic _, _, _ => False
  | .outgrown, _, _ => False

theorem putObj_size' (W : World) (l : Nat) (o : Obj) : (W.putObj l o).heap.size = W.heap.size := World.putObj_size

variable {n : Nat} {P : Program}
end
end Go.Proofs.YtbpcapcgbnbknaaGreat
