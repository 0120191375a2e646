/-
  Texts of this claim, in their build order: G1 Lib16 X1 X3.
-/
import Derived.Test.YtfdlhhinomjakaaHel21
import Derived.Test.YtfdlhhinomjakaaRows
import Derived.ProofKit
import Derived.OpenShut
import Derived.ShutString
import Derived.ChangeOld
import Derived.Test.YtfdlhhinomjakaaHel5
import Derived.Test.YtfdlhhinomjakaaHel3
import Derived.RangeFuncNested
import Derived.RangeFuncBound
import Derived.RangeFuncCalls
import Derived.RangeFuncLeaves
import Derived.RangeFuncBox
import Derived.OwnWalkIn
import Derived.TacticsInMore
import Derived.LoopNIn
import Derived.LoopIn
import Derived.OrdersIn
import Derived.Maps.AppendAt
import Derived.Test.YtfdlhhinomjakaaHel18
import Derived.Test.YtfdlhhinomjakaaHel20

namespace Go.Proofs.Ytfdlhhinomjakaa
section
set_option maxRecDepth 100000
open Go.ChangeShapes Go.WideShapes Go.ChangeAt Go.RowKit

theorem own : ownKnob Try.prog.godebug = none := by kernel_rfl
theorem laidOut : laidOutB Try.prog = true := by kernel_rfl

theorem cell_int {P : Program} {w : World} {r : Reach} {base : Nat} {t : TypeId} {v : Value} (ht : P.underlying t = some (.int .i64)) (h : Cell.okWide P w r base t v) : ∃ n, v = .int .i64 n := by
  simp only [Cell.okWide, ht] at h
  cases v <;> simp_all [Cell.ok]
theorem cell_bool {P : Program} {w : World} {r : Reach} {base : Nat} {t : TypeId} {v : Value} (ht : P.underlying t = some .bool) (h : Cell.okWide P w r base t v) : ∃ b, v = .bool b := by
  simp only [Cell.okWide, ht] at h
  cases v <;> simp_all [Cell.ok]
theorem row_at {P : Program} {w : World} {r : Reach} {base : Nat} {t : TypeId} {cs : Array Value} (ts : List TypeId) (ht : P.cellTypes P.depth t = some ts) (h : Row.okWide P w r base t cs) {i : Nat} {v : Value} (hi : i < ts.length) (hv : cs[i]? = some v) :
    ∃ u, ts[i]? = some u ∧ Cell.okWide P w r base u v := by
  obtain ⟨ts', ht', _, hc⟩ := h
  rw [ht] at ht'
  cases ht'
  obtain ⟨u, hu, hk⟩ := hc i v hv
  rw [Nat.mod_eq_of_lt hi] at hu
  exact ⟨u, hu, hk⟩

theorem arr9 {cs : Array Value} (h : cs.size = 9) : ∃ a b c d e f g i j, cs = #[a, b, c, d, e, f, g, i, j] := by
  obtain ⟨l⟩ := cs
  match l, h with
  | [a, b, c, d, e, f, g, i, j], _ => exact ⟨a, b, c, d, e, f, g, i, j, rfl⟩

theorem cellTypesT : Try.prog.cellTypes Try.prog.depth 25 = some [3, 3, 3, 3, 3, 4, 3, 3, 3] := by kernel_rfl
theorem open_test {w : World} {base : Nat} {v : Value} (h : Value.okWide Try.prog w .any base 25 v) : ∃ x : HT, v = .agg x.cells := by
  obtain ⟨fs, hu⟩ : ∃ fs, Try.prog.underlying 25 = some (.struct fs) := ⟨_, Try.underlying25⟩
  simp only [Value.okWide, hu] at h
  obtain ⟨cs, rfl, hs, hr⟩ := h
  obtain ⟨a, b, c, d, e, f, g, i, j, rfl⟩ := arr9 (hs.trans (show Try.prog.cellsOf 25 = 9 by kernel_rfl))
  have hn : ∀ (k : Nat) (v : Value), k < 9 → k ≠ 5 → (#[a, b, c, d, e, f, g, i, j] : Array Value)[k]? = some v → ∃ n, v = .int .i64 n := by
    intro k v hk h5 hv
    obtain ⟨u, hu, hc⟩ := row_at _ cellTypesT hr (i := k) (v := v) hk hv
    have hu3 : u = 3 := by
      match k, hk, h5, hu with
      | 0, _, _, hu => exact (Option.some.inj hu).symm
      | 1, _, _, hu => exact (Option.some.inj hu).symm
      | 2, _, _, hu => exact (Option.some.inj hu).symm
      | 3, _, _, hu => exact (Option.some.inj hu).symm
      | 4, _, _, hu => exact (Option.some.inj hu).symm
      | 6, _, _, hu => exact (Option.some.inj hu).symm
      | 7, _, _, hu => exact (Option.some.inj hu).symm
      | 8, _, _, hu => exact (Option.some.inj hu).symm
    subst hu3
    exact cell_int Try.underlying3 hc
  obtain ⟨u, hu, hc⟩ := row_at _ cellTypesT hr (i := 5) (v := f) (by decide) rfl
  cases hu
  obtain ⟨cp, rfl⟩ := cell_bool Try.underlying4 hc
  obtain ⟨n0, rfl⟩ := hn 0 a (by decide) (by decide) rfl
  obtain ⟨n1, rfl⟩ := hn 1 b (by decide) (by decide) rfl
  obtain ⟨n2, rfl⟩ := hn 2 c (by decide) (by decide) rfl
  obtain ⟨n3, rfl⟩ := hn 3 d (by decide) (by decide) rfl
  obtain ⟨n4, rfl⟩ := hn 4 e (by decide) (by decide) rfl
  obtain ⟨n6, rfl⟩ := hn 6 g (by decide) (by decide) rfl
  obtain ⟨n7, rfl⟩ := hn 7 i (by decide) (by decide) rfl
  obtain ⟨n8, rfl⟩ := hn 8 j (by decide) (by decide) rfl
  exact ⟨⟨n0, n1, n2, n3, n4, cp, n6, n7, n8⟩, rfl⟩

theorem cell_lt {w : World} {a : Addr} {v : Value} (h : w.cell? a = some v) : a.block < w.heap.size := by
  unfold World.cell? at h
  split at h
  · rename_i hb; exact (Array.getElem?_eq_some_iff.1 hb).1
  · cases h

theorem open_list {H : Type} {enc : TypeId × Value → H} {W : World} {v : Value} {d : DataW H} {p : List MemPlace} {base : Nat} (hv : Value.okWide Try.prog W .any base 26 v) (h : DataW.Trod enc Try.prog W 0 (fun _ => true) true 26 v d p) :
    ∃ (zs : List Int) (a : Option Addr) (cap : Nat), v = .slice a zs.length cap ∧ zs.length ≤ maxLen ∧ zs.length ≤ cap ∧ Reads W a zs.length (ints zs) := by
  obtain ⟨a0, len0, cap0, rfl⟩ := okWide_slice Try.underlying26 hv
  obtain ⟨fuel, hf⟩ := h
  rcases open_ints Try.underlying26 Try.underlying3 (by kernel_rfl) hf with ⟨hcs, _⟩ | ⟨x, l, c, zs, hcs, _, hl, hm, hz, _, hcell, hwz⟩
  · simp [Value.cells] at hcs
    obtain ⟨rfl, rfl, rfl⟩ := hcs
    exact ⟨[], none, 0, rfl, Nat.zero_le _, Nat.zero_le _, .inl rfl⟩
  · simp [Value.cells] at hcs
    obtain ⟨rfl, rfl, rfl⟩ := hcs
    have hzl : zs.length = cap0 := by simpa using hz
    have htl : (zs.take len0).length = len0 := by rw [List.length_take]; omega
    refine ⟨zs.take len0, some x, cap0, by rw [htl], by rw [htl]; omega, by rw [htl]; exact hl, ?_⟩
    rw [htl]
    by_cases h0 : len0 = 0
    · exact .inl h0
    · have hc := hcell 0 (by omega)
      obtain ⟨b, off, spot⟩ := x
      have hspot : spot = none := by simpa [Addr.add] using World.cell?_spot hc
      subst hspot
      have hadd : ∀ i, (⟨b, off, none⟩ : Addr).add i = ⟨b, off + i, none⟩ := by intro i; unfold Addr.add; split <;> simp_all
      refine .inr ⟨b, off, rfl, ?_, fun i hi => ?_⟩
      · have := cell_lt hc; rwa [hadd] at this
      · rw [← hadd i, hcell i (by omega)]
        unfold ints gi
        rw [List.getD_eq_getElem?_getD, List.getD_eq_getElem?_getD, List.getElem?_take, if_pos hi]
end
section
open Go.RowKit

/-- The contract of an iterator that is a method's value (fb: the receiver): it gives xs, one after the other, and reads the blocks of Rd. -/
def SeqB {α : Type} (n : Nat) (P : Program) (g : Nat) (fb lb : Array Value) (encs : α → Array Value) (xs : List α) (Rd : Nat → Prop) (w : World) : Prop :=
  ∀ (l : Nat) (J : List α → (Nat → Prop) → World → Prop) (Jx : List α → World → Prop) (M : Nat → Prop) (W : World),
    Below w.heap.size w W → (∀ k, M k → k < W.heap.size ∧ ¬ Rd k) →
    (∀ pre M1 W1 W2, J pre M1 W1 → Agree W.heap.size M1 W1 W2 → J pre M1 W2) →
    (∀ pre x rest M1 W1, xs = pre ++ x :: rest → J pre M1 W1 → YieldAt Fence.wide (n - 1) P l (encs x) W1 fun e W2 =>
      (e = .returned (.bool true) ∧ ∃ M2, J (pre ++ [x]) M2 W2 ∧ Upd M1 M2 W1 W2) ∨ (e = .returned (.bool false) ∧ Jx (pre ++ [x]) W2)) →
    J [] M W →
    CallsIn Fence.wide n P g (fb ++ #[.func (.yield l) #[] #[]] ++ lb) W fun e W' => (∃ v, e = .returned v) ∧ ((∃ M', J xs M' W') ∨ (∃ pre x rest, xs = pre ++ x :: rest ∧ Jx (pre ++ [x]) W'))

variable {n : Nat} {P : Program}

/-- A range over a function, by the iterator's contract SeqB. -/
theorem wpIn_rangeFunc_B {α : Type} {g : Operand} {ps : Array Tmp} {assign body : Code} {Q : Exit → Act → World → Prop} {a : Act} {w : World} {gf : Nat} {fb lb : Array Value}
    (hg : a.eval g = .func (.func gf) fb lb) (eg : ∀ args w, (callFunc gf args).run P w = .ok (.enter gf args) w)
    {encs : α → Array Value} {xs : List α} {Rd : Nat → Prop} {w0 : World} (hseq : SeqB (n - 1) P gf fb lb encs xs Rd w0) (hb0 : Below w0.heap.size w0 w) (hps : ∀ x, (encs x).size = ps.size)
    (hRd : ∀ k, Rd k → k < w.heap.size)
    (I : List α → (Nat → Prop) → World → Prop) (Ix : Code → List α → World → Prop) (M : Nat → Prop) (hM : ∀ k, M k → k < w.heap.size ∧ ¬ Rd k)
    (hI : ∀ pre M1 W1 W2, I pre M1 W1 → Agree w.heap.size M1 W1 W2 → I pre M1 W2)
    (hIx : ∀ c pre W1 l o, Ix c pre W1 → w.heap.size ≤ l → (∃ o0, W1.heap[l]? = some o0 ∧ o0.isCells = false) → Ix c pre (W1.putObj l o))
    (I₁ : Act → List α → α → (Nat → Prop) → Act → World → Prop)
    (hI₁ : ∀ pre x M1 a₁ W1 W2, I₁ a pre x M1 a₁ W1 → Agree w.heap.size M1 W1 W2 → I₁ a pre x M1 a₁ W2)
    (h0 : I [] M w)
    (hassign : ∀ (l : Nat) (pre : List α) (x : α) (rest : List α) (M1 : Nat → Prop) (W : World), xs = pre ++ x :: rest → I pre M1 W → w.heap.size ≤ W.heap.size →
      assign.wpIn (Fence.wide.inRound l) (n - 1 - 1) P (Exit.then (fun a₁ W₁ => ∃ M₂, I₁ a pre x M₂ a₁ W₁ ∧ Upd M1 M₂ W W₁) (fun _ _ _ => False)) { tmps := (ps.zip (encs x)).foldl (fun t (p, v) => t.setIfInBounds p v) a.tmps, defers := [] } W)
    (hbody : ∀ (l : Nat) (pre : List α) (x : α) (rest : List α) (M1 : Nat → Prop) (a₁ : Act) (W : World), xs = pre ++ x :: rest → I₁ a pre x M1 a₁ W → w.heap.size ≤ W.heap.size →
      body.wpIn (Fence.wide.inRound l) (n - 1 - 1) P (postM I Ix (pre ++ [x]) M1 W) a₁ W)
    (hdone : ∀ (D : Nat) (M1 : Nat → Prop) (W : World), w.heap.size ≤ D → ¬ M1 D → I xs M1 W → W.heap[D]? = some (.deferred (some [])) → Q .normal { a with defers := { target := .collected D, args := #[] } :: a.defers } W)
    (hstop : ∀ (D : Nat) (c : Code) (pre : List α) (x : α) (rest : List α) (W : World), w.heap.size ≤ D → xs = pre ++ x :: rest → Ix c (pre ++ [x]) W → W.heap[D]? = some (.deferred (some [])) → c.wpIn Fence.wide n P Q { a with defers := { target := .collected D, args := #[] } :: a.defers } W) :
    (Code.rangeFunc g ps assign body).wpIn Fence.wide n P Q a w := by
  refine wpIn_rangeFunc ?_
  intro fn hfn
  obtain ⟨rec, hrec⟩ : ∃ rec : LoopState → Option Code → Loop, rec = fun st pe => { state := st, pending := pe, fn, tmps := a.tmps, params := ps, assign, body, defers := w.heap.size } := ⟨_, rfl⟩
  obtain ⟨W1, hW1⟩ : ∃ W1, (w.alloc (.deferred (some []))).alloc (.loop (rec .ready none)) = W1 := ⟨_, rfl⟩
  have hL1 : W1.heap[w.heap.size + 1]? = some (.loop (rec .ready none)) := by
    rw [← hW1]; have := World.alloc_heap_new (w.alloc (.deferred (some []))) (.loop (rec .ready none)); rwa [World.size_alloc] at this
  have hK1 : W1.heap[w.heap.size]? = some (.deferred (some [])) := by
    rw [← hW1]; exact (Below.heap_alloc _ _ _ (by simp)).trans (World.alloc_heap_new w _)
  have hsz1 : W1.heap.size = w.heap.size + 2 := by rw [← hW1]; simp
  have hbw : Below w.heap.size w W1 := by rw [← hW1]; exact bAlloc (bAlloc (bSelf w) _) _
  have hI1 : I [] M W1 := hI _ _ _ _ h0 (Agree.of_below hbw (Nat.le_refl _))
  have hb1 : Below w0.heap.size w0 W1 := bThen hb0 hbw
  refine ⟨w.heap.size + 1, [{ target := .collected w.heap.size, args := #[] }], W1, { target := .fn (.func gf) lb, args := fb ++ #[.func (.yield (w.heap.size + 1)) #[] #[]] }, W1, gf,
    fb ++ #[.func (.yield (w.heap.size + 1)) #[] #[]] ++ lb, W1, ?_, ?_, ?_, ?_, fun h => by simp [Fence.wide] at h, ?_⟩
  · rw [← hW1, hrec]; exact run_enterLoop_outer _ _ _ _ _
  · simp only [resolve, hg]
    simp [go_sem]
  · intro f' _; trivial
  · simp [invoke, go_sem, eg]
  · refine (hseq (w.heap.size + 1)
      (fun pre M1 W => ∃ M0, (∀ k, M0 k → M1 k) ∧ M1 (w.heap.size + 1) ∧ M1 w.heap.size ∧ ¬ M0 (w.heap.size + 1) ∧ ¬ M0 w.heap.size ∧ I pre M0 W ∧ W.heap[w.heap.size + 1]? = some (.loop (rec .ready none)) ∧ W.heap[w.heap.size]? = some (.deferred (some [])))
      (fun pre W => ∃ c, Ix c pre W ∧ W.heap[w.heap.size + 1]? = some (.loop (rec .done (some c))) ∧ W.heap[w.heap.size]? = some (.deferred (some [])))
      (fun k => M k ∨ k = w.heap.size + 1 ∨ k = w.heap.size) W1 hb1 ?_ ?_ ?_ ⟨M, fun k h => .inl h, .inr (.inl rfl), .inr (.inr rfl), fun h => by have := (hM _ h).1; omega, fun h => by have := (hM _ h).1; omega, hI1, hL1, hK1⟩).mono ?_
    · intro k hk
      rcases hk with hk | rfl | rfl
      · exact ⟨by have := (hM k hk).1; omega, (hM k hk).2⟩
      · exact ⟨by omega, fun h => by have := hRd _ h; omega⟩
      · exact ⟨by omega, fun h => by have := hRd _ h; omega⟩
    · rintro pre M1 Wa Wb ⟨M0, hsub, hl1, hd1, hl0, hd0, hi, hl, hk⟩ hag
      have hlt := (Array.getElem?_eq_some_iff.1 hl).1
      exact ⟨M0, hsub, hl1, hd1, hl0, hd0, hI _ _ _ _ hi (hag.mono (by omega) hsub), (hag.same _ hlt hl1).trans hl, (hag.same _ (by omega) hd1).trans hk⟩
    · rintro pre x rest M1 W hxs ⟨M0, hsub, hl1, hd1, hl0, hd0, hi, hl, hk⟩
      have hlt : w.heap.size + 1 < W.heap.size := (Array.getElem?_eq_some_iff.1 hl).1
      have hy := run_yield (P := P) (args := encs x) hl (by rw [hrec]; exact hps x)
      rw [hrec] at hy
      refine ⟨fn, _, assign, body, hy, roundIn_of_wpIn hfn (wpIn_mono (hassign _ pre x rest M0 W hxs hi (by omega)) ?_)⟩
      intro e a₁ W₁ hp
      cases e with
      | normal =>
        obtain ⟨M₂, hi1, hu1⟩ := hp
        have hnl2 : ¬ M₂ (w.heap.size + 1) := fun h => by exact (hu1.grow _ h).elim (fun h => hl0 h) (fun h => by omega)
        have hnd2 : ¬ M₂ w.heap.size := fun h => by exact (hu1.grow _ h).elim (fun h => hd0 h) (fun h => by omega)
        have hl1' : W₁.heap[w.heap.size + 1]? = some (.loop (rec .ready none)) := (hu1.same _ hlt hl0).trans hl
        have hk1' : W₁.heap[w.heap.size]? = some (.deferred (some [])) := (hu1.same _ (by omega) hd0).trans hk
        have hlt1 : w.heap.size + 1 < W₁.heap.size := (Array.getElem?_eq_some_iff.1 hl1').1
        refine ⟨_, run_beginRound hl1' (by rw [hrec]), ?_⟩
        have hl2 : (W₁.putObj (w.heap.size + 1) (.loop { rec .ready none with state := .busy })).heap[w.heap.size + 1]? = some (.loop { rec .ready none with state := .busy }) := World.putObj_heap_same hlt1
        have hk2 : (W₁.putObj (w.heap.size + 1) (.loop { rec .ready none with state := .busy })).heap[w.heap.size]? = some (.deferred (some [])) := (World.putObj_heap_other (by omega)).trans hk1'
        refine wpIn_mono (hbody _ pre x rest M₂ a₁ _ hxs (hI₁ _ _ _ _ _ _ hi1 (Agree.putObj _ _ _ (by omega) hnl2)) (by rw [putObj_size']; omega)) ?_
        have fin : ∀ (jump : Option Code) (M3 : Nat → Prop) (W3 : World), Upd M₂ M3 (W₁.putObj (w.heap.size + 1) (.loop { rec .ready none with state := .busy })) W3 →
            (Instr.endRound (w.heap.size + 1) jump).run P W3 = .ok (.bool jump.isNone) (W3.putObj (w.heap.size + 1) (.loop (rec (if jump.isNone then .ready else .done) jump))) ∧
            W3.heap[w.heap.size + 1]? = some (.loop { rec .ready none with state := .busy }) ∧
            (W3.putObj (w.heap.size + 1) (.loop (rec (if jump.isNone then .ready else .done) jump))).heap[w.heap.size + 1]? = some (.loop (rec (if jump.isNone then .ready else .done) jump)) ∧
            (W3.putObj (w.heap.size + 1) (.loop (rec (if jump.isNone then .ready else .done) jump))).heap[w.heap.size]? = some (.deferred (some [])) := fun jump M3 W3 hu3 => by
          have hl3 := (hu3.same _ (by rw [putObj_size']; omega) hnl2).trans hl2
          have hk3 := (hu3.same _ (by rw [putObj_size']; omega) hnd2).trans hk2
          have := run_endRound (P := P) jump hl3
          rw [hrec] at this ⊢
          exact ⟨this, by rw [hrec] at hl3; exact hl3, World.putObj_heap_same (Array.getElem?_eq_some_iff.1 hl3).1, (World.putObj_heap_other (by omega)).trans hk3⟩
        have hupd : ∀ (jump : Option Code) (M3 : Nat → Prop) (W3 : World), Upd M₂ M3 (W₁.putObj (w.heap.size + 1) (.loop { rec .ready none with state := .busy })) W3 →
            Upd M1 (fun k => M3 k ∨ k = w.heap.size + 1 ∨ k = w.heap.size) W (W3.putObj (w.heap.size + 1) (.loop (rec (if jump.isNone then .ready else .done) jump))) := fun jump M3 W3 hu3 => by
          have hsz3 := hu3.size
          rw [putObj_size'] at hsz3
          refine ⟨hu3.os.trans hu1.os, hu3.tape.trans hu1.tape, hu3.output.trans hu1.output, by rw [putObj_size']; exact Nat.le_trans hu1.size hsz3, fun k hk hm => ?_, fun k hk => ?_, fun k hk => ?_⟩
          · have hkl : k ≠ w.heap.size + 1 := fun e => hm (e ▸ hl1)
            have hm0 : ¬ M0 k := fun h => hm (hsub k h)
            have hm2 : ¬ M₂ k := fun h => by exact (hu1.grow k h).elim (fun h2 => hm0 h2) (fun h2 => by omega)
            rw [World.putObj_heap_other hkl, hu3.same k (by rw [putObj_size']; exact Nat.lt_of_lt_of_le hk hu1.size) hm2, World.putObj_heap_other hkl, hu1.same k hk hm0]
          · rcases hk with hk | rfl | rfl
            · rcases hu3.grow k hk with h2 | h2
              · rcases hu1.grow k h2 with h3 | h3
                · exact .inl (hsub k h3)
                · exact .inr h3
              · rw [putObj_size'] at h2; exact .inr (Nat.le_trans hu1.size h2)
            · exact .inl hl1
            · exact .inl hd1
          · rw [putObj_size']
            rcases hk with hk | rfl | rfl
            · exact hu3.fit k hk
            · omega
            · omega
        rintro e a3 W3 hp
        cases e with
        | normal =>
          obtain ⟨M3, hi3, hu3⟩ := hp
          obtain ⟨hr, hl3, hl4, hk4⟩ := fin none M3 W3 hu3
          have hnl3 : ¬ M3 (w.heap.size + 1) := fun h => by exact (hu3.grow _ h).elim (fun h => hnl2 h) (fun h => by rw [putObj_size'] at h; omega)
          have hnd3 : ¬ M3 w.heap.size := fun h => by exact (hu3.grow _ h).elim (fun h => hnd2 h) (fun h => by rw [putObj_size'] at h; omega)
          exact ⟨_, _, hr, .inl ⟨rfl, _, ⟨M3, fun k h => .inl h, .inr (.inl rfl), .inr (.inr rfl), hnl3, hnd3, hI _ _ _ _ hi3 (Agree.putObj _ _ _ (by omega) hnl3), hl4, hk4⟩, hupd none M3 W3 hu3⟩⟩
        | ret =>
          obtain ⟨M3, hi3, hu3⟩ := hp
          obtain ⟨hr, hl3, hl4, hk4⟩ := fin (some .ret) M3 W3 hu3
          exact ⟨_, _, hr, .inr ⟨rfl, .ret, hIx _ _ _ _ _ hi3 (by omega) ⟨_, hl3, rfl⟩, hl4, hk4⟩⟩
        | exit id =>
          obtain ⟨M3, hi3, hu3⟩ := hp
          obtain ⟨hr, hl3, hl4, hk4⟩ := fin (some (.exit id)) M3 W3 hu3
          exact ⟨_, _, hr, .inr ⟨rfl, .exit id, hIx _ _ _ _ _ hi3 (by omega) ⟨_, hl3, rfl⟩, hl4, hk4⟩⟩
        | goto t =>
          obtain ⟨M3, hi3, hu3⟩ := hp
          obtain ⟨hr, hl3, hl4, hk4⟩ := fin (some (.goto t)) M3 W3 hu3
          exact ⟨_, _, hr, .inr ⟨rfl, .goto t, hIx _ _ _ _ _ hi3 (by omega) ⟨_, hl3, rfl⟩, hl4, hk4⟩⟩
        | panic ch => exact hp.elim
        | outgrown => exact hp.elim
      | exit id => exact hp.elim
      | goto t => exact hp.elim
      | ret => exact hp.elim
      | panic ch => exact hp.elim
      | outgrown => exact hp.elim
    · rintro e W2 ⟨⟨v, rfl⟩, (⟨M', M0, hsub, hl1, hd1, hl0, hd0, hi, hl, hk⟩ | ⟨pre, x, rest, hxs, c, hi, hl, hk⟩)⟩
      · have hlt := (Array.getElem?_eq_some_iff.1 hl).1
        exact ⟨none, _, by have := run_endLoop (P := P) hl (by rw [hrec]; simp); rw [hrec] at this; exact this, hdone _ M0 _ (Nat.le_refl _) hd0 (hI _ _ _ _ hi (Agree.putObj _ _ _ (by omega) hl0)) ((World.putObj_heap_other (by omega)).trans hk)⟩
      · exact ⟨some c, _, by have := run_endLoop (P := P) hl (by rw [hrec]; simp); rw [hrec] at this; exact this, hstop _ c pre x rest _ (Nat.le_refl _) hxs (hIx _ _ _ _ _ hi (by omega) ⟨_, hl, rfl⟩) ((World.putObj_heap_other (by omega)).trans hk)⟩
end
section
open Go.RowKit

/-- Is a fraction in lowest terms, with Den above 0? -/
def lowB (n m : Int) : Bool := decide (0 < m) && ((Int.gcd n m : Nat) : Int) == 1
end
section
open Go.RowKit

/-- The sum of the forces from a node on, up to another. -/
def upTo (fs : List Int) (n : Nat) : Nat → Int
  | 0 => 0
  | j + 1 => upTo fs n j + gi fs (n + j)
end
end Go.Proofs.Ytfdlhhinomjakaa
