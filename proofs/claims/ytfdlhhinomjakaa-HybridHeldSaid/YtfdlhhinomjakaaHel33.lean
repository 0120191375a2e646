/-
  Texts of this claim, in their build order: BS2 BS3 Lib19 Lib12 P3.
-/
import Derived.Test.YtfdlhhinomjakaaHel6
import Derived.Test.YtfdlhhinomjakaaHel5
import Derived.Maps.OwnSet
import Derived.Maps.OwnIn
import Derived.DeepKeys4
import Derived.Test.YtfdlhhinomjakaaHel31
import Derived.Test.YtfdlhhinomjakaaHel32
import Derived.Test.YtfdlhhinomjakaaHel24
import Derived.Test.YtfdlhhinomjakaaHel9
import Derived.Test.YtfdlhhinomjakaaHel25
import Derived.Test.YtfdlhhinomjakaaHel20
import Derived.Test.YtfdlhhinomjakaaHel26
import Derived.Test.YtfdlhhinomjakaaHel23

namespace Go.Proofs.Ytfdlhhinomjakaa
section
open Go.RowKit
open Go.Maps (Keyed)

abbrev stH : TypeId := 72
abbrev seT : TypeId := 78
abbrev unT : TypeId := 83
theorem laidOutH : laidOutB Try.prog = true := by kernel_rfl
theorem ktH : Try.prog.keyType stH = true := by kernel_rfl
theorem lawH : Keyed Try.prog stH := Keyed.of_law (deep_law_laid laidOutH (m := 2) (by omega) (of_decide_eq_true (by kernel_rfl)) (by kernel_rfl) (by kernel_rfl))
theorem undSe : Try.prog.underlying seT = some (.map stH unT) := by kernel_rfl
theorem zeroU (w : World) : (zeroValue unT).run Try.prog w = .ok (.agg #[]) w := by kernel_rfl
theorem clsH : Try.prog.cellsOf stH = 4 := by kernel_rfl
theorem clsHI : Try.prog.cellsOf 3 = 1 := by kernel_rfl

/-- A state: four numbers of the kind int. -/
structure BdH (zs : List Int) : Prop where
  len : zs.length = 4
  lo : ∀ i, i < 4 → -9223372036854775808 ≤ gi zs i
  hi : ∀ i, i < 4 → gi zs i ≤ 9223372036854775807
theorem BdH.wf {zs : List Int} (h : BdH zs) {i : Nat} (hi : i < 4) : (Lit.int .i64 (gi zs i)).wf = true := WalkArith.wf_i64 (by have := h.lo i hi; have := h.hi i hi; omega)
abbrev hV (zs : List Int) : Value := .agg (l4 zs)
def klH (zs : List Int) : Lit := .string (keyBytes [.int .i64 (gi zs 0), .int .i64 (gi zs 1), .int .i64 (gi zs 2), .int .i64 (gi zs 3)])
theorem keyLitsH (d : Nat) {zs : List Int} (h : BdH zs) : Try.prog.keyLits (d + 2) stH [.int .i64 (gi zs 0), .int .i64 (gi zs 1), .int .i64 (gi zs 2), .int .i64 (gi zs 3)] = some [.int .i64 (gi zs 0), .int .i64 (gi zs 1), .int .i64 (gi zs 2), .int .i64 (gi zs 3)] := by
  have h0 := h.wf (show 0 < 4 by omega)
  have h1 := h.wf (show 1 < 4 by omega)
  have h2 := h.wf (show 2 < 4 by omega)
  have h3 := h.wf (show 3 < 4 by omega)
  have e1 := Try.underlying3
  simp [Program.keyLits, Try.underlying72, clsH, clsHI, h0, h1, h2, h3, e1, show List.range 4 = [0, 1, 2, 3] from rfl]
theorem sizeH : ∃ d, Try.prog.types.size + 1 = d + 2 := ⟨Try.prog.types.size - 1, by have : 1 ≤ Try.prog.types.size := of_decide_eq_true (by kernel_rfl); omega⟩
theorem keyH {zs : List Int} (h : BdH zs) : keyOf Try.prog stH (hV zs) = some (klH zs) := by
  obtain ⟨d, hd⟩ := sizeH
  unfold keyOf klH hV
  simp only [Try.underlying72]
  rw [hd]
  simp [Value.formed, Try.underlying72, clsH, Value.cells, keyLitsH d h, ktH]
theorem st4_ext {zs ys : List Int} (hz : zs.length = 4) (hy : ys.length = 4) (h0 : gi zs 0 = gi ys 0) (h1 : gi zs 1 = gi ys 1) (h2 : gi zs 2 = gi ys 2) (h3 : gi zs 3 = gi ys 3) : zs = ys := by
  match zs, hz, ys, hy with
  | [a, b, c, d], _, [e, f, g, h], _ =>
    have e0 : a = e := h0
    have e1 : b = f := h1
    have e2 : c = g := h2
    have e3 : d = h := h3
    rw [e0, e1, e2, e3]
theorem hV_inj {zs ys : List Int} (hz : zs.length = 4) (hy : ys.length = 4) (h : hV zs = hV ys) : zs = ys := by
  injection h with h
  injection h with h
  injection h with a0 h
  injection h with a1 h
  injection h with a2 h
  injection h with a3 _
  injection a0 with _ a0
  injection a1 with _ a1
  injection a2 with _ a2
  injection a3 with _ a3
  exact st4_ext hz hy a0 a1 a2 a3
theorem klH_ne {s t : List Int} (hs : BdH s) (ht : BdH t) (h : s ≠ t) : klH s ≠ klH t := fun e => h (hV_inj hs.len ht.len (lawH.inj (keyH hs) (e ▸ keyH ht)))

/-- How an element reads: as itself. -/
def rdV (v : Value) : Option (DataW Value × List MemPlace) := some (.held v, [])
/-- A map from states to values. -/
def MapV (W : World) (b n : Nat) (f : List Int → Option Value) : Prop :=
  ∃ D : DataW Value, W.ownsMap Try.prog stH rdV b n D ∧ ∀ zs, BdH zs → Maps.has D (klH zs) = (f zs).isSome ∧ ∀ z, D.atKey (klH zs) (.held z) = .held ((f zs).getD z)
theorem MapV.new (w : World) : MapV (w.alloc (.map #[] 0)) w.heap.size 0 (fun _ => none) :=
  ⟨.map [], World.ownsMap_made w _ _ _, fun _ _ => ⟨rfl, fun _ => rfl⟩⟩
theorem MapV.lt {W : World} {b n : Nat} {f : List Int → Option Value} (h : MapV W b n f) : b < W.heap.size := by obtain ⟨D, h, -⟩ := h; exact h.lt
theorem MapV.same {W W' : World} {b n : Nat} {f : List Int → Option Value} (h : MapV W b n f) (hb : W'.heap[b]? = W.heap[b]?) : MapV W' b n f := by
  obtain ⟨D, ⟨es, c, h1, h2⟩, h3⟩ := h
  exact ⟨D, ⟨es, c, hb.trans h1, h2⟩, h3⟩
theorem MapV.to {W W' : World} {b n : Nat} {f : List Int → Option Value} (h : MapV W b n f) (hb : Below W.heap.size W W') : MapV W' b n f := h.same (hb.block b h.lt)
theorem MapV.mono {W : World} {b n n' : Nat} {f : List Int → Option Value} (h : MapV W b n f) (hn : n ≤ n') : MapV W b n' f := by
  obtain ⟨D, h1, h3⟩ := h
  exact ⟨D, h1.mono hn, h3⟩
theorem MapV.ext {W : World} {b n : Nat} {f g : List Int → Option Value} (h : MapV W b n f) (he : ∀ s, BdH s → f s = g s) : MapV W b n g := by
  obtain ⟨D, h1, h3⟩ := h
  exact ⟨D, h1, fun zs hz => by rw [← he zs hz]; exact h3 zs hz⟩
theorem MapV.grown {W W' : World} {b n : Nat} {f : List Int → Option Value} {row : Option Nat} (h : MapV W b n f) (hg : W.grownBy W' row) (hr : some b ≠ row) : MapV W' b n f := by
  obtain ⟨D, h1, h3⟩ := h
  exact ⟨D, h1.kept hg hr, h3⟩
/-- Asked. -/
theorem MapV.ask {W : World} {b n : Nat} {f : List Int → Option Value} (h : MapV W b n f) {t e : TypeId} (ht : Try.prog.underlying t = some (.map stH e)) {z : Value} (hz : (zeroValue e).run Try.prog W = .ok z W) {zs : List Int} (hs : BdH zs) :
    (Instr.lookup t (.map (some b)) (hV zs) false).run Try.prog W = .ok ((f zs).getD z) W := by
  obtain ⟨D, h1, h3⟩ := h
  obtain ⟨v, ps, hrun, hv⟩ := h1.lookup lawH ht hz (R := rdV) rfl (keyH hs)
  rw [(h3 zs hs).2] at hv
  have e1 := congrArg Prod.fst (Option.some.inj (show some (DataW.held v, []) = some (DataW.held ((f zs).getD z), ps) from hv))
  have e2 : v = (f zs).getD z := DataW.held.inj e1
  rw [hrun, e2]
theorem MapV.askOk {W : World} {b n : Nat} {f : List Int → Option Value} (h : MapV W b n f) {t e : TypeId} (ht : Try.prog.underlying t = some (.map stH e)) {z : Value} (hz : (zeroValue e).run Try.prog W = .ok z W) {zs : List Int} (hs : BdH zs) :
    (Instr.lookup t (.map (some b)) (hV zs) true).run Try.prog W = .ok (.tuple #[(f zs).getD z, .bool (f zs).isSome]) W := by
  obtain ⟨D, h1, h3⟩ := h
  obtain ⟨v, ps, hrun, hv⟩ := h1.look_ok lawH ht hz (R := rdV) rfl (keyH hs)
  rw [(h3 zs hs).2] at hv
  have e1 := congrArg Prod.fst (Option.some.inj (show some (DataW.held v, []) = some (DataW.held ((f zs).getD z), ps) from hv))
  have e2 : v = (f zs).getD z := DataW.held.inj e1
  rw [hrun, e2, (h3 zs hs).1]
/-- Put in. -/
theorem MapV.put {W : World} {b n : Nat} {f : List Int → Option Value} (h : MapV W b n f) {t e : TypeId} (ht : Try.prog.underlying t = some (.map stH e)) {zs : List Int} (hs : BdH zs) (hn : n < maxLen) (v : Value) :
    ∃ W', (Instr.mapUpdate t (.map (some b)) (hV zs) v).run Try.prog W = .ok () W' ∧ MapV W' b (n + 1) (fun x => if x = zs then some v else f x) ∧ W.grownBy W' (some b) := by
  obtain ⟨D, h1, h3⟩ := h
  have hm : Maps.IsMap D := (h1.tidy lawH).isMap
  obtain ⟨W', hrun, h2, hg⟩ := h1.update lawH ht hn (keyH hs) (show rdV v = some (.held v, []) from rfl)
  refine ⟨W', hrun, ⟨_, h2, fun x hx => ?_⟩, hg⟩
  by_cases he : x = zs
  · subst he
    dsimp only
    rw [if_pos rfl, Maps.has_put_same hm (lawH.key (keyH hs))]
    exact ⟨rfl, fun z => by rw [Maps.atKey_put_same hm (lawH.key (keyH hs))]; rfl⟩
  · dsimp only
    rw [if_neg he, Maps.has_put_other (klH_ne hx hs he)]
    refine ⟨(h3 x hx).1, fun z => ?_⟩
    rw [Maps.atKey_put_other (klH_ne hx hs he)]
    exact (h3 x hx).2 z
end
section
open Go.RowKit

def nxH (x : HT) (a : List Int) (f : Int) : Option (List Int) := if inB x (nextV x a f) then some (nextL x a (nextV x a f)) else none
/-- A state that a search meets. -/
structure StH (zs : List Int) : Prop where
  len : zs.length = 4
  bd : ∀ i, i < 4 → -3 ≤ gi zs i ∧ gi zs i ≤ 3
theorem StH.st {zs : List Int} (h : StH zs) : St (gi zs 0) (gi zs 1) (gi zs 2) (gi zs 3) := by
  have h0 := h.bd 0 (by omega)
  have h1 := h.bd 1 (by omega)
  have h2 := h.bd 2 (by omega)
  have h3 := h.bd 3 (by omega)
  exact ⟨h0.1, h0.2, h1.1, h1.2, h2.1, h2.2, h3.1, h3.2⟩
theorem StH.key {zs : List Int} (h : StH zs) : BdH zs := ⟨h.len, fun i hi => by have := (h.bd i hi).1; omega, fun i hi => by have := (h.bd i hi).2; omega⟩
theorem StH.zero : StH [0, 0, 0, 0] := ⟨rfl, fun i hi => by
  match i, hi with
  | 0, _ => exact ⟨by decide, by decide⟩
  | 1, _ => exact ⟨by decide, by decide⟩
  | 2, _ => exact ⟨by decide, by decide⟩
  | 3, _ => exact ⟨by decide, by decide⟩⟩
theorem nextL_st {x : HT} {zs : List Int} {n : Int} (hx : x.ok) (h : StH zs) (hn : inB x n = true) : StH (nextL x zs n) := by
  unfold inB at hn
  simp only [Bool.and_eq_true, decide_eq_true_eq] at hn
  have hb := hx.b2
  have h0 := h.bd 0 (by omega)
  have h1 := h.bd 1 (by omega)
  have h2 := h.bd 2 (by omega)
  refine ⟨rfl, fun i hi => ?_⟩
  match i, hi with
  | 0, _ => exact ⟨by show -3 ≤ n; omega, by show n ≤ 3; omega⟩
  | 1, _ => exact h0
  | 2, _ =>
    show -3 ≤ kp x 1 (gi zs 1) ∧ kp x 1 (gi zs 1) ≤ 3
    unfold kp
    split
    · exact h1
    · exact ⟨by decide, by decide⟩
  | 3, _ =>
    show -3 ≤ kp x 2 (gi zs 2) ∧ kp x 2 (gi zs 2) ≤ 3
    unfold kp
    split
    · exact h2
    · exact ⟨by decide, by decide⟩
theorem nxH_st {x : HT} {zs t : List Int} {f : Int} (hx : x.ok) (h : StH zs) (ht : nxH x zs f = some t) : StH t := by
  unfold nxH at ht
  split at ht
  · rename_i hn
    cases ht
    exact nextL_st hx h hn
  · cases ht
theorem goW_st {x : HT} (hx : x.ok) : ∀ (es : List Int) (s t : List Int), StH s → goW (nxH x) s es = some t → StH t
  | [], s, t, h, ht => by
    have ht : some s = some t := ht
    cases ht
    exact h
  | f :: es, s, t, h, ht => by
    have ht : (nxH x s f).bind (fun u => goW (nxH x) u es) = some t := ht
    cases hn : nxH x s f with
    | none => rw [hn] at ht; cases ht
    | some u =>
      rw [hn] at ht
      exact goW_st hx es u t (nxH_st hx h hn) ht
theorem nextH_any (x : HT) (zs : List Int) (f : Int) (w : World) (hx : x.ok) (hs : StH zs) (hf1 : -1000 ≤ f) (hf2 : f ≤ 1000) :
    Calls Try.prog 42 #[.agg x.cells, .agg (l4 zs), .int .i64 f] w fun e w' => e = .returned (.tuple #[.agg (l4 (nextL x zs (nextV x zs f))), .bool (inB x (nextV x zs f))]) ∧ Below w.heap.size w w' := by
  have h := next_in x (gi zs 0) (gi zs 1) (gi zs 2) (gi zs 3) f w hx hs.st hf1 hf2
  have e1 : nextV x [gi zs 0, gi zs 1, gi zs 2, gi zs 3] f = nextV x zs f := by
    unfold nextV pushV
    rw [cmdV_l4 x zs _ (by have := hx.dl1; have := hx.dl2; omega)]
    rfl
  rw [e1] at h
  exact h
/-- All of them. -/
def r7 : List Int := [-3, -2, -1, 0, 1, 2, 3]
def all4 : List (List Int) := r7.flatMap fun a => r7.flatMap fun b => r7.flatMap fun c => r7.map fun d => [a, b, c, d]
theorem mem_r7 {n : Int} (h1 : -3 ≤ n) (h2 : n ≤ 3) : n ∈ r7 := by
  unfold r7
  simp only [List.mem_cons, List.not_mem_nil, or_false]
  omega
theorem all4_len : all4.length = 2401 := by kernel_rfl
theorem mem_all4 {zs : List Int} (h : StH zs) : zs ∈ all4 := by
  have hl := h.len
  have h0 := h.bd 0 (by omega)
  have h1 := h.bd 1 (by omega)
  have h2 := h.bd 2 (by omega)
  have h3 := h.bd 3 (by omega)
  match zs, hl with
  | [a, b, c, d], _ =>
    unfold all4
    rw [List.mem_flatMap]
    refine ⟨a, mem_r7 h0.1 h0.2, ?_⟩
    rw [List.mem_flatMap]
    refine ⟨b, mem_r7 h1.1 h1.2, ?_⟩
    rw [List.mem_flatMap]
    refine ⟨c, mem_r7 h2.1 h2.2, ?_⟩
    rw [List.mem_map]
    exact ⟨d, mem_r7 h3.1 h3.2, rfl⟩
theorem few_sth {o : List (List Int)} (hn : o.Nodup) (hs : ∀ a ∈ o, StH a) : o.length ≤ 2401 := by
  have h := nodup_le hn (u := all4) (fun a ha => mem_all4 (hs a ha))
  rw [all4_len] at h
  exact h
/-- A row of states in memory. -/
def hcells (o : List (List Int)) : List Value := o.flatMap fun a => [.int .i64 (gi a 0), .int .i64 (gi a 1), .int .i64 (gi a 2), .int .i64 (gi a 3)]
theorem hcells_len : ∀ (o : List (List Int)), (hcells o).length = o.length * 4
  | [] => rfl
  | a :: o => by
    have := hcells_len o
    unfold hcells at *
    rw [List.flatMap_cons, List.length_append, this]
    simp only [List.length_cons, List.length_nil]
    omega
theorem hcells_snoc (o : List (List Int)) (a : List Int) : hcells (o ++ [a]) = hcells o ++ [.int .i64 (gi a 0), .int .i64 (gi a 1), .int .i64 (gi a 2), .int .i64 (gi a 3)] := by
  unfold hcells
  rw [List.flatMap_append]
  rfl
def hg (o : List (List Int)) (i : Nat) : List Int := o.getD i [0, 0, 0, 0]
theorem hg_lt {o : List (List Int)} {i : Nat} (h : i < o.length) : hg o i = o[i] := by unfold hg; rw [List.getD_eq_getElem?_getD, List.getElem?_eq_getElem h]; rfl
def hsts (o : List (List Int)) (j : Nat) : Value := .int .i64 (gi (hg o (j / 4)) (j % 4))
theorem hsts_at (o : List (List Int)) (i k : Nat) (hk : k < 4) : hsts o (i * 4 + k) = .int .i64 (gi (hg o i) k) := by
  unfold hsts
  rw [show (i * 4 + k) / 4 = i by omega, show (i * 4 + k) % 4 = k by omega]
theorem hcells_get : ∀ (o : List (List Int)) (j : Nat), j < o.length * 4 → (hcells o)[j]? = some (hsts o j)
  | [], j, h => by simp at h
  | a :: o, j, h => by
    have e : hcells (a :: o) = [.int .i64 (gi a 0), .int .i64 (gi a 1), .int .i64 (gi a 2), .int .i64 (gi a 3)] ++ hcells o := rfl
    rw [e]
    match j, h with
    | 0, _ => rfl
    | 1, _ => rfl
    | 2, _ => rfl
    | 3, _ => rfl
    | j + 4, h =>
      rw [List.getElem?_append_right (by simp only [List.length_cons, List.length_nil]; omega)]
      simp only [List.length_cons, List.length_nil, Nat.reduceAdd, Nat.add_sub_cancel]
      rw [hcells_get o j (by simp only [List.length_cons] at h; omega)]
      unfold hsts
      rw [show (j + 4) / 4 = j / 4 + 1 by omega, show (j + 4) % 4 = j % 4 by omega]
      rfl
end
section
open Go.RowKit

theorem wpIn_region_tree {P : Program} {l : List Oper} {Q : Exit → Act → World → Prop} {id d r : Nat} {a : Act} {w : World} (hm : P.follows .mixedOrders = true) (hnd : noDeferB l = true) (hno : ¬ LetsOut Q)
    (h : ∀ w', Below w.heap.size w w' → WT P w.heap.size l Q l.length (Array.replicate l.length false) a w') : (Code.region id l.toArray true).wpIn (Fence.wide.inRound r) d P Q a w := by
  refine wpIn_region_any hm (wpAnyIn_of_wpAny (noDefer_spec hnd) hno _ _ _ _ (wpAny_of_wpD (N := w.heap.size) _ _ _ _ ?_))
  have := (h { w with drawn := w.drawn + 1 } (Below.refl _ _).drew).out
  simpa using this
end
section
open Go.RowKit

/-- A row of its own, from block n0 on: its cells, whole. -/
def Own (W : World) (n0 : Nat) (a : Option Addr) (m : Nat) (f : Nat → Value) : Prop :=
  (∀ p, a = some p → n0 ≤ p.block ∧ p.block < W.heap.size) ∧ (m = 0 ∨ ∃ g cur, a = some ⟨g, 0, none⟩ ∧ Blk W g cur ∧ ∀ i, i < m → cur[i]? = some (f i))
theorem Own.to {W W' : World} {n0 : Nat} {a : Option Addr} {m : Nat} {f : Nat → Value} (h : Own W n0 a m f) (hb : Below W.heap.size W W') : Own W' n0 a m f := by
  refine ⟨fun p hp => ⟨(h.1 p hp).1, Nat.lt_of_lt_of_le (h.1 p hp).2 hb.size⟩, ?_⟩
  rcases h.2 with h | ⟨g, cur, e, hk, hc⟩
  · exact .inl h
  · exact .inr ⟨g, cur, e, hk.to hb, hc⟩
theorem Own.le {W : World} {n0 n1 : Nat} {a : Option Addr} {m : Nat} {f : Nat → Value} (h : Own W n0 a m f) (hn : n1 ≤ n0) : Own W n1 a m f :=
  ⟨fun p hp => ⟨Nat.le_trans hn (h.1 p hp).1, (h.1 p hp).2⟩, h.2⟩
theorem Own.other {W : World} {n0 : Nat} {a : Option Addr} {m : Nat} {f : Nat → Value} (h : Own W n0 a m f) (p : Addr) (v : Value) (hp : p.block < n0) : Own (W.setCell p v) n0 a m f := by
  refine ⟨fun q hq => ⟨(h.1 q hq).1, by simpa [World.setCell] using (h.1 q hq).2⟩, ?_⟩
  rcases h.2 with h0 | ⟨g, cur, e, hk, hc⟩
  · exact .inl h0
  · refine .inr ⟨g, cur, e, hk.other (fun e' => ?_) v, hc⟩
    have := (h.1 _ e).1
    dsimp only at this
    omega
theorem Own.at {W : World} {n0 : Nat} {a : Option Addr} {m : Nat} {f : Nat → Value} (h : Own W n0 a m f) (hm : 0 < m) : ∃ g cur, a = some ⟨g, 0, none⟩ ∧ n0 ≤ g ∧ Blk W g cur ∧ ∀ i, i < m → cur[i]? = some (f i) := by
  rcases h.2 with h0 | ⟨g, cur, e, hk, hc⟩
  · omega
  · exact ⟨g, cur, e, (h.1 _ e).1, hk, hc⟩
theorem Blk.row {W : World} {g : Nat} {cur : Array Value} {m : Nat} {f : Nat → Value} (h : Blk W g cur) (hc : ∀ i, i < m → cur[i]? = some (f i)) : Reads W (some ⟨g, 0, none⟩) m f :=
  .inr ⟨g, 0, rfl, h.1, fun i hi => by rw [Nat.zero_add, h.2.1 i, hc i hi]⟩
theorem Own.of_row {W : World} {n₀ : Nat} {e : TypeId} {size : Nat} {v : Value} {n : Nat} {xs : List Value} {f : Nat → Value} (h : W.ownsRow n₀ e size v n xs) (hf : ∀ i, i < n * size → xs[i]? = some (f i)) :
    ∃ a cap, v = .slice a n cap ∧ n ≤ cap ∧ Own W n₀ a (n * size) f := by
  rcases h.2 with ⟨rfl, h0⟩ | ⟨g, cap, cur, rfl, hb, hg, hn, hc, hs, ht⟩
  · exact ⟨none, 0, by rw [h0], by omega, ⟨fun p hp => (by cases hp), .inl (by rw [h0, Nat.zero_mul])⟩⟩
  · have hlt : g < W.heap.size := (Array.getElem?_eq_some_iff.1 hg).1
    refine ⟨_, cap, rfl, hn, ⟨fun p hp => (by cases hp; exact ⟨hb, hlt⟩), .inr ⟨g, cur, rfl, ⟨hlt, fun o => (by unfold World.cell?; simp only [hg]; rfl), fun o => (by unfold World.frozen?; simp only [hg]; simp)⟩, fun i hi => ?_⟩⟩⟩
    rw [← hf i hi, ← ht, List.getElem?_take, if_pos hi, Array.getElem?_toList]

theorem ints_map {zs : List Int} (i : Nat) (h : i < zs.length * 1) : (zs.map fun z => Value.int .i64 z)[i]? = some (ints zs i) := by
  have h2 : i < zs.length := by omega
  rw [List.getElem?_map, List.getElem?_eq_getElem h2]
  simp [ints, gi, h2]
end
section
open Go.RowKit

theorem eachR_val {err : Nat → Int} {x : Int} (h : ∀ k, err k = 0 ∨ err k = x) : ∀ (n k : Nat), (∃ j, k ≤ j ∧ j < k + n ∧ err j ≠ 0) → (eachR err k n).2 = x
  | 0, k, ⟨j, h1, h2, _⟩ => by omega
  | n + 1, k, ⟨j, h1, h2, h3⟩ => by
    unfold eachR
    by_cases hk : err k = 0
    · rw [if_pos hk]
      exact eachR_val h n (k + 1) ⟨j, by
        rcases Nat.lt_or_ge k j with h | h
        · omega
        · have : j = k := by omega
          subst this
          exact absurd hk h3, by omega, h3⟩
    · rw [if_neg hk]
      rcases h k with h | h
      · exact absurd h hk
      · exact h
theorem eachR_all {err : Nat → Int} : ∀ (n k : Nat), (∀ j, k ≤ j → j < k + n → err j = 0) → eachR err k n = (0, 0)
  | 0, _, _ => rfl
  | n + 1, k, h => by
    unfold eachR
    rw [if_pos (h k (by omega) (by omega))]
    exact eachR_all n (k + 1) (fun j h1 h2 => h j (by omega) (by omega))
end
end Go.Proofs.Ytfdlhhinomjakaa
