/-
  Texts of this claim, in their build order: Lib3.
-/
import Derived.Test.YtfdlhhinomjakaaHel3
import Derived.RangeFuncNested
import Derived.RangeFuncBound
import Derived.RangeFuncCalls
import Derived.RangeFuncLeaves
import Derived.RangeFuncBox
import Derived.OwnWalkIn
import Derived.TacticsInMore
import Derived.LoopNIn
import Derived.LoopIn
import Derived.OrdersIn
import Derived.Maps.AppendAt

namespace Go.Proofs.Ytfdlhhinomjakaa
section
open Go.RowKit

/-- From W1 to W2 no block below B, and none of the set M, has turned. -/
structure Agree (B : Nat) (M : Nat → Prop) (W1 W2 : World) : Prop where
  os : W2.os = W1.os
  tape : W2.tape = W1.tape
  output : W2.output = W1.output
  size : W1.heap.size ≤ W2.heap.size
  low : ∀ k, k < B → W2.heap[k]? = W1.heap[k]?
  same : ∀ k, k < W1.heap.size → M k → W2.heap[k]? = W1.heap[k]?

theorem Agree.refl (B : Nat) (M : Nat → Prop) (W : World) : Agree B M W W := ⟨rfl, rfl, rfl, Nat.le_refl _, fun _ _ => rfl, fun _ _ _ => rfl⟩
theorem Agree.trans {B : Nat} {M : Nat → Prop} {a b c : World} (h : Agree B M a b) (k : Agree B M b c) : Agree B M a c :=
  ⟨k.os.trans h.os, k.tape.trans h.tape, k.output.trans h.output, Nat.le_trans h.size k.size, fun i hi => (k.low i hi).trans (h.low i hi), fun i hi hm => (k.same i (Nat.lt_of_lt_of_le hi h.size) hm).trans (h.same i hi hm)⟩
theorem Agree.below {B : Nat} {M : Nat → Prop} {a b : World} (h : Agree B M a b) : Below B a b := ⟨h.os, h.tape, h.output, h.size, h.low⟩
theorem Agree.mono {B B' : Nat} {M M' : Nat → Prop} {a b : World} (h : Agree B M a b) (hB : B' ≤ B) (hM : ∀ k, M' k → M k) : Agree B' M' a b :=
  ⟨h.os, h.tape, h.output, h.size, fun k hk => h.low k (Nat.lt_of_lt_of_le hk hB), fun k hk hm => h.same k hk (hM k hm)⟩
theorem Agree.of_below {B : Nat} {M : Nat → Prop} {a b : World} (h : Below a.heap.size a b) (hB : B ≤ a.heap.size) : Agree B M a b :=
  ⟨h.os, h.tape, h.output, h.size, fun k hk => h.block k (Nat.lt_of_lt_of_le hk hB), fun k hk _ => h.block k hk⟩
theorem Agree.setCell {B : Nat} {M : Nat → Prop} (W : World) (p : Addr) (v : Value) (hB : B ≤ p.block) (hM : ¬ M p.block) : Agree B M W (W.setCell p v) :=
  ⟨rfl, rfl, rfl, by simp [World.setCell], fun k hk => Below.heap_setCell _ _ _ _ (by omega), fun k _ hm => Below.heap_setCell _ _ _ _ (fun e => hM (e ▸ hm))⟩
theorem Agree.putObj {B : Nat} {M : Nat → Prop} (W : World) (l : Nat) (o : Obj) (hB : B ≤ l) (hM : ¬ M l) : Agree B M W (W.putObj l o) :=
  ⟨rfl, rfl, rfl, by simp, fun k hk => World.putObj_heap_other (by omega), fun k _ hm => World.putObj_heap_other (fun e => hM (e ▸ hm))⟩

/-- From W1 to W2 only blocks of M have been written; M' is what may be written from here on: of M, or new. -/
structure Upd (M M' : Nat → Prop) (W1 W2 : World) : Prop where
  os : W2.os = W1.os
  tape : W2.tape = W1.tape
  output : W2.output = W1.output
  size : W1.heap.size ≤ W2.heap.size
  same : ∀ k, k < W1.heap.size → ¬ M k → W2.heap[k]? = W1.heap[k]?
  grow : ∀ k, M' k → M k ∨ W1.heap.size ≤ k
  fit : ∀ k, M' k → k < W2.heap.size

theorem Upd.refl {M : Nat → Prop} {W : World} (hM : ∀ k, M k → k < W.heap.size) : Upd M M W W := ⟨rfl, rfl, rfl, Nat.le_refl _, fun _ _ _ => rfl, fun _ h => .inl h, hM⟩
theorem Upd.trans {M1 M2 M3 : Nat → Prop} {a b c : World} (h : Upd M1 M2 a b) (k : Upd M2 M3 b c) : Upd M1 M3 a c :=
  ⟨k.os.trans h.os, k.tape.trans h.tape, k.output.trans h.output, Nat.le_trans h.size k.size,
    fun i hi hm => (k.same i (Nat.lt_of_lt_of_le hi h.size) (fun h2 => (h.grow i h2).elim hm (fun h3 => by omega))).trans (h.same i hi hm),
    fun i hi => (k.grow i hi).elim (fun h2 => h.grow i h2) (fun h2 => .inr (Nat.le_trans h.size h2)), k.fit⟩
theorem Upd.alloc {M : Nat → Prop} {W : World} (hM : ∀ k, M k → k < W.heap.size) (o : Obj) : Upd M (fun k => M k ∨ k = W.heap.size) W (W.alloc o) :=
  ⟨rfl, rfl, rfl, by simp, fun k hk _ => Below.heap_alloc _ _ _ hk, fun k hk => hk.elim .inl (fun h => .inr (by omega)), fun k hk => by
    have : k < W.heap.size + 1 := hk.elim (fun h => by have := hM k h; omega) (fun h => by omega)
    simpa using this⟩
theorem Upd.setCell {M : Nat → Prop} {W : World} (hM : ∀ k, M k → k < W.heap.size) (p : Addr) (v : Value) (hp : M p.block) : Upd M M W (W.setCell p v) :=
  ⟨rfl, rfl, rfl, by simp [World.setCell], fun k _ hm => Below.heap_setCell _ _ _ _ (fun e => hm (e ▸ hp)), fun _ h => .inl h, fun k hk => by simpa [World.setCell] using hM k hk⟩
theorem Upd.of_below {M : Nat → Prop} {a b : World} (hM : ∀ k, M k → k < a.heap.size) (h : Below a.heap.size a b) : Upd M M a b :=
  ⟨h.os, h.tape, h.output, h.size, fun k hk _ => h.block k hk, fun _ h => .inl h, fun k hk => Nat.lt_of_lt_of_le (hM k hk) h.size⟩
theorem Upd.below {M M' : Nat → Prop} {a b : World} {B : Nat} (h : Upd M M' a b) (hB : B ≤ a.heap.size) (hM : ∀ k, M k → B ≤ k) : Below B a b :=
  ⟨h.os, h.tape, h.output, h.size, fun k hk => h.same k (Nat.lt_of_lt_of_le hk hB) (fun hm => by have := hM k hm; omega)⟩
/-- An iterator's contract: it gives xs, one after the other, and reads the blocks of Rd. -/
def SeqM {α : Type} (n : Nat) (P : Program) (g : Nat) (lb : Array Value) (encs : α → Array Value) (xs : List α) (Rd : Nat → Prop) (w : World) : Prop :=
  ∀ (l : Nat) (J : List α → (Nat → Prop) → World → Prop) (Jx : List α → World → Prop) (M : Nat → Prop) (W : World),
    Below w.heap.size w W → (∀ k, M k → k < W.heap.size ∧ ¬ Rd k) →
    (∀ pre M1 W1 W2, J pre M1 W1 → Agree W.heap.size M1 W1 W2 → J pre M1 W2) →
    (∀ pre x rest M1 W1, xs = pre ++ x :: rest → J pre M1 W1 → YieldAt Fence.wide (n - 1) P l (encs x) W1 fun e W2 =>
      (e = .returned (.bool true) ∧ ∃ M2, J (pre ++ [x]) M2 W2 ∧ Upd M1 M2 W1 W2) ∨ (e = .returned (.bool false) ∧ Jx (pre ++ [x]) W2)) →
    J [] M W →
    CallsIn Fence.wide n P g (#[.func (.yield l) #[] #[]] ++ lb) W fun e W' => (∃ v, e = .returned v) ∧ ((∃ M', J xs M' W') ∨ (∃ pre x rest, xs = pre ++ x :: rest ∧ Jx (pre ++ [x]) W'))

/-- How the body of a round may be left. -/
def postM {α : Type} (I : List α → (Nat → Prop) → World → Prop) (Ix : Code → List α → World → Prop) (xs : List α) (M : Nat → Prop) (W : World) : Exit → Act → World → Prop
  | .normal, _, W' => ∃ M', I xs M' W' ∧ Upd M M' W W'
  | .ret, _, W' => ∃ M', Ix .ret xs W' ∧ Upd M M' W W'
  | .exit id, _, W' => ∃ M', Ix (.exit id) xs W' ∧ Upd M M' W W'
  | .goto t, _, W' => ∃ M', Ix (.goto t) xs W' ∧ Upd M M' W W'
  | .panic _, _, _ => False
  | .outgrown, _, _ => False

theorem putObj_size' (W : World) (l : Nat) (o : Obj) : (W.putObj l o).heap.size = W.heap.size := World.putObj_size

variable {n : Nat} {P : Program}

/-- A range over a function, by the iterator's contract SeqM. -/
theorem wpIn_rangeFunc_M {α : Type} {g : Operand} {ps : Array Tmp} {assign body : Code} {Q : Exit → Act → World → Prop} {a : Act} {w : World} {gf : Nat} {lb : Array Value}
    (hg : a.eval g = .func (.func gf) #[] lb) (eg : ∀ args w, (callFunc gf args).run P w = .ok (.enter gf args) w)
    {encs : α → Array Value} {xs : List α} {Rd : Nat → Prop} {w0 : World} (hseq : SeqM (n - 1) P gf lb encs xs Rd w0) (hb0 : Below w0.heap.size w0 w) (hps : ∀ x, (encs x).size = ps.size)
    (hRd : ∀ k, Rd k → k < w.heap.size)
    (I : List α → (Nat → Prop) → World → Prop) (Ix : Code → List α → World → Prop) (M : Nat → Prop) (hM : ∀ k, M k → k < w.heap.size ∧ ¬ Rd k)
    (hI : ∀ pre M1 W1 W2, I pre M1 W1 → Agree w.heap.size M1 W1 W2 → I pre M1 W2)
    (hIx : ∀ c pre W1 l o, Ix c pre W1 → w.heap.size ≤ l → (∃ o0, W1.heap[l]? = some o0 ∧ o0.isCells = false) → Ix c pre (W1.putObj l o))
    (I₁ : Act → List α → α → (Nat → Prop) → Act → World → Prop)
    (hI₁ : ∀ pre x M1 a₁ W1 W2, I₁ a pre x M1 a₁ W1 → Agree w.heap.size M1 W1 W2 → I₁ a pre x M1 a₁ W2)
    (h0 : I [] M w)
    (hassign : ∀ (l : Nat) (pre : List α) (x : α) (rest : List α) (M1 : Nat → Prop) (W : World), xs = pre ++ x :: rest → I pre M1 W → w.heap.size ≤ W.heap.size →
      assign.wpIn (Fence.wide.inRound l) (n - 1 - 1) P (Exit.then (fun a₁ W₁ => ∃ M₂, I₁ a pre x M₂ a₁ W₁ ∧ Upd M1 M₂ W W₁) (fun _ _ _ => False)) { tmps := (ps.zip (encs x)).foldl (fun t (p, v) => t.setIfInBounds p v) a.tmps, defers := [] } W)
    (hbody : ∀ (l : Nat) (pre : List α) (x : α) (rest : List α) (M1 : Nat → Prop) (a₁ : Act) (W : World), xs = pre ++ x :: rest → I₁ a pre x M1 a₁ W → w.heap.size ≤ W.heap.size →
      body.wpIn (Fence.wide.inRound l) (n - 1 - 1) P (postM I Ix (pre ++ [x]) M1 W) a₁ W)
    (hdone : ∀ (D : Nat) (M1 : Nat → Prop) (W : World), w.heap.size ≤ D → ¬ M1 D → I xs M1 W → W.heap[D]? = some (.deferred (some [])) → Q .normal { a with defers := { target := .collected D, args := #[] } :: a.defers } W)
    (hstop : ∀ (D : Nat) (c : Code) (pre : List α) (x : α) (rest : List α) (W : World), w.heap.size ≤ D → xs = pre ++ x :: rest → Ix c (pre ++ [x]) W → W.heap[D]? = some (.deferred (some [])) → c.wpIn Fence.wide n P Q { a with defers := { target := .collected D, args := #[] } :: a.defers } W) :
    (Code.rangeFunc g ps assign body).wpIn Fence.wide n P Q a w := by
  refine wpIn_rangeFunc ?_
  intro fn hfn
  obtain ⟨rec, hrec⟩ : ∃ rec : LoopState → Option Code → Loop, rec = fun st pe => { state := st, pending := pe, fn, tmps := a.tmps, params := ps, assign, body, defers := w.heap.size } := ⟨_, rfl⟩
  obtain ⟨W1, hW1⟩ : ∃ W1, (w.alloc (.deferred (some []))).alloc (.loop (rec .ready none)) = W1 := ⟨_, rfl⟩
  have hL1 : W1.heap[w.heap.size + 1]? = some (.loop (rec .ready none)) := by
    rw [← hW1]; have := World.alloc_heap_new (w.alloc (.deferred (some []))) (.loop (rec .ready none)); rwa [World.size_alloc] at this
  have hK1 : W1.heap[w.heap.size]? = some (.deferred (some [])) := by
    rw [← hW1]; exact (Below.heap_alloc _ _ _ (by simp)).trans (World.alloc_heap_new w _)
  have hsz1 : W1.heap.size = w.heap.size + 2 := by rw [← hW1]; simp
  have hbw : Below w.heap.size w W1 := by rw [← hW1]; exact bAlloc (bAlloc (bSelf w) _) _
  have hI1 : I [] M W1 := hI _ _ _ _ h0 (Agree.of_below hbw (Nat.le_refl _))
  have hb1 : Below w0.heap.size w0 W1 := bThen hb0 hbw
  refine ⟨w.heap.size + 1, [{ target := .collected w.heap.size, args := #[] }], W1, { target := .fn (.func gf) lb, args := #[.func (.yield (w.heap.size + 1)) #[] #[]] }, W1, gf,
    #[.func (.yield (w.heap.size + 1)) #[] #[]] ++ lb, W1, ?_, ?_, ?_, ?_, fun h => by simp [Fence.wide] at h, ?_⟩
  · rw [← hW1, hrec]; exact run_enterLoop_outer _ _ _ _ _
  · simp only [resolve, hg]
    simp [go_sem]
  · intro f' _; trivial
  · simp [invoke, go_sem, eg]
  · refine (hseq (w.heap.size + 1)
      (fun pre M1 W => ∃ M0, (∀ k, M0 k → M1 k) ∧ M1 (w.heap.size + 1) ∧ M1 w.heap.size ∧ ¬ M0 (w.heap.size + 1) ∧ ¬ M0 w.heap.size ∧ I pre M0 W ∧ W.heap[w.heap.size + 1]? = some (.loop (rec .ready none)) ∧ W.heap[w.heap.size]? = some (.deferred (some [])))
      (fun pre W => ∃ c, Ix c pre W ∧ W.heap[w.heap.size + 1]? = some (.loop (rec .done (some c))) ∧ W.heap[w.heap.size]? = some (.deferred (some [])))
      (fun k => M k ∨ k = w.heap.size + 1 ∨ k = w.heap.size) W1 hb1 ?_ ?_ ?_ ⟨M, fun k h => .inl h, .inr (.inl rfl), .inr (.inr rfl), fun h => by have := (hM _ h).1; omega, fun h => by have := (hM _ h).1; omega, hI1, hL1, hK1⟩).mono ?_
    · intro k hk
      rcases hk with hk | rfl | rfl
      · exact ⟨by have := (hM k hk).1; omega, (hM k hk).2⟩
      · exact ⟨by omega, fun h => by have := hRd _ h; omega⟩
      · exact ⟨by omega, fun h => by have := hRd _ h; omega⟩
    · rintro pre M1 Wa Wb ⟨M0, hsub, hl1, hd1, hl0, hd0, hi, hl, hk⟩ hag
      have hlt := (Array.getElem?_eq_some_iff.1 hl).1
      exact ⟨M0, hsub, hl1, hd1, hl0, hd0, hI _ _ _ _ hi (hag.mono (by omega) hsub), (hag.same _ hlt hl1).trans hl, (hag.same _ (by omega) hd1).trans hk⟩
    · rintro pre x rest M1 W hxs ⟨M0, hsub, hl1, hd1, hl0, hd0, hi, hl, hk⟩
      have hlt : w.heap.size + 1 < W.heap.size := (Array.getElem?_eq_some_iff.1 hl).1
      have hy := run_yield (P := P) (args := encs x) hl (by rw [hrec]; exact hps x)
      rw [hrec] at hy
      refine ⟨fn, _, assign, body, hy, roundIn_of_wpIn hfn (wpIn_mono (hassign _ pre x rest M0 W hxs hi (by omega)) ?_)⟩
      intro e a₁ W₁ hp
      cases e with
      | normal =>
        obtain ⟨M₂, hi1, hu1⟩ := hp
        have hnl2 : ¬ M₂ (w.heap.size + 1) := fun h => by exact (hu1.grow _ h).elim (fun h => hl0 h) (fun h => by omega)
        have hnd2 : ¬ M₂ w.heap.size := fun h => by exact (hu1.grow _ h).elim (fun h => hd0 h) (fun h => by omega)
        have hl1' : W₁.heap[w.heap.size + 1]? = some (.loop (rec .ready none)) := (hu1.same _ hlt hl0).trans hl
        have hk1' : W₁.heap[w.heap.size]? = some (.deferred (some [])) := (hu1.same _ (by omega) hd0).trans hk
        have hlt1 : w.heap.size + 1 < W₁.heap.size := (Array.getElem?_eq_some_iff.1 hl1').1
        refine ⟨_, run_beginRound hl1' (by rw [hrec]), ?_⟩
        have hl2 : (W₁.putObj (w.heap.size + 1) (.loop { rec .ready none with state := .busy })).heap[w.heap.size + 1]? = some (.loop { rec .ready none with state := .busy }) := World.putObj_heap_same hlt1
        have hk2 : (W₁.putObj (w.heap.size + 1) (.loop { rec .ready none with state := .busy })).heap[w.heap.size]? = some (.deferred (some [])) := (World.putObj_heap_other (by omega)).trans hk1'
        refine wpIn_mono (hbody _ pre x rest M₂ a₁ _ hxs (hI₁ _ _ _ _ _ _ hi1 (Agree.putObj _ _ _ (by omega) hnl2)) (by rw [putObj_size']; omega)) ?_
        have fin : ∀ (jump : Option Code) (M3 : Nat → Prop) (W3 : World), Upd M₂ M3 (W₁.putObj (w.heap.size + 1) (.loop { rec .ready none with state := .busy })) W3 →
            (Instr.endRound (w.heap.size + 1) jump).run P W3 = .ok (.bool jump.isNone) (W3.putObj (w.heap.size + 1) (.loop (rec (if jump.isNone then .ready else .done) jump))) ∧
            W3.heap[w.heap.size + 1]? = some (.loop { rec .ready none with state := .busy }) ∧
            (W3.putObj (w.heap.size + 1) (.loop (rec (if jump.isNone then .ready else .done) jump))).heap[w.heap.size + 1]? = some (.loop (rec (if jump.isNone then .ready else .done) jump)) ∧
            (W3.putObj (w.heap.size + 1) (.loop (rec (if jump.isNone then .ready else .done) jump))).heap[w.heap.size]? = some (.deferred (some [])) := fun jump M3 W3 hu3 => by
          have hl3 := (hu3.same _ (by rw [putObj_size']; omega) hnl2).trans hl2
          have hk3 := (hu3.same _ (by rw [putObj_size']; omega) hnd2).trans hk2
          have := run_endRound (P := P) jump hl3
          rw [hrec] at this ⊢
          exact ⟨this, by rw [hrec] at hl3; exact hl3, World.putObj_heap_same (Array.getElem?_eq_some_iff.1 hl3).1, (World.putObj_heap_other (by omega)).trans hk3⟩
        have hupd : ∀ (jump : Option Code) (M3 : Nat → Prop) (W3 : World), Upd M₂ M3 (W₁.putObj (w.heap.size + 1) (.loop { rec .ready none with state := .busy })) W3 →
            Upd M1 (fun k => M3 k ∨ k = w.heap.size + 1 ∨ k = w.heap.size) W (W3.putObj (w.heap.size + 1) (.loop (rec (if jump.isNone then .ready else .done) jump))) := fun jump M3 W3 hu3 => by
          have hsz3 := hu3.size
          rw [putObj_size'] at hsz3
          refine ⟨hu3.os.trans hu1.os, hu3.tape.trans hu1.tape, hu3.output.trans hu1.output, by rw [putObj_size']; exact Nat.le_trans hu1.size hsz3, fun k hk hm => ?_, fun k hk => ?_, fun k hk => ?_⟩
          · have hkl : k ≠ w.heap.size + 1 := fun e => hm (e ▸ hl1)
            have hm0 : ¬ M0 k := fun h => hm (hsub k h)
            have hm2 : ¬ M₂ k := fun h => by exact (hu1.grow k h).elim (fun h2 => hm0 h2) (fun h2 => by omega)
            rw [World.putObj_heap_other hkl, hu3.same k (by rw [putObj_size']; exact Nat.lt_of_lt_of_le hk hu1.size) hm2, World.putObj_heap_other hkl, hu1.same k hk hm0]
          · rcases hk with hk | rfl | rfl
            · rcases hu3.grow k hk with h2 | h2
              · rcases hu1.grow k h2 with h3 | h3
                · exact .inl (hsub k h3)
                · exact .inr h3
              · rw [putObj_size'] at h2; exact .inr (Nat.le_trans hu1.size h2)
            · exact .inl hl1
            · exact .inl hd1
          · rw [putObj_size']
            rcases hk with hk | rfl | rfl
            · exact hu3.fit k hk
            · omega
            · omega
        rintro e a3 W3 hp
        cases e with
        | normal =>
          obtain ⟨M3, hi3, hu3⟩ := hp
          obtain ⟨hr, hl3, hl4, hk4⟩ := fin none M3 W3 hu3
          have hnl3 : ¬ M3 (w.heap.size + 1) := fun h => by exact (hu3.grow _ h).elim (fun h => hnl2 h) (fun h => by rw [putObj_size'] at h; omega)
          have hnd3 : ¬ M3 w.heap.size := fun h => by exact (hu3.grow _ h).elim (fun h => hnd2 h) (fun h => by rw [putObj_size'] at h; omega)
          exact ⟨_, _, hr, .inl ⟨rfl, _, ⟨M3, fun k h => .inl h, .inr (.inl rfl), .inr (.inr rfl), hnl3, hnd3, hI _ _ _ _ hi3 (Agree.putObj _ _ _ (by omega) hnl3), hl4, hk4⟩, hupd none M3 W3 hu3⟩⟩
        | ret =>
          obtain ⟨M3, hi3, hu3⟩ := hp
          obtain ⟨hr, hl3, hl4, hk4⟩ := fin (some .ret) M3 W3 hu3
          exact ⟨_, _, hr, .inr ⟨rfl, .ret, hIx _ _ _ _ _ hi3 (by omega) ⟨_, hl3, rfl⟩, hl4, hk4⟩⟩
        | exit id =>
          obtain ⟨M3, hi3, hu3⟩ := hp
          obtain ⟨hr, hl3, hl4, hk4⟩ := fin (some (.exit id)) M3 W3 hu3
          exact ⟨_, _, hr, .inr ⟨rfl, .exit id, hIx _ _ _ _ _ hi3 (by omega) ⟨_, hl3, rfl⟩, hl4, hk4⟩⟩
        | goto t =>
          obtain ⟨M3, hi3, hu3⟩ := hp
          obtain ⟨hr, hl3, hl4, hk4⟩ := fin (some (.goto t)) M3 W3 hu3
          exact ⟨_, _, hr, .inr ⟨rfl, .goto t, hIx _ _ _ _ _ hi3 (by omega) ⟨_, hl3, rfl⟩, hl4, hk4⟩⟩
        | panic ch => exact hp.elim
        | outgrown => exact hp.elim
      | exit id => exact hp.elim
      | goto t => exact hp.elim
      | ret => exact hp.elim
      | panic ch => exact hp.elim
      | outgrown => exact hp.elim
    · rintro e W2 ⟨⟨v, rfl⟩, (⟨M', M0, hsub, hl1, hd1, hl0, hd0, hi, hl, hk⟩ | ⟨pre, x, rest, hxs, c, hi, hl, hk⟩)⟩
      · have hlt := (Array.getElem?_eq_some_iff.1 hl).1
        exact ⟨none, _, by have := run_endLoop (P := P) hl (by rw [hrec]; simp); rw [hrec] at this; exact this, hdone _ M0 _ (Nat.le_refl _) hd0 (hI _ _ _ _ hi (Agree.putObj _ _ _ (by omega) hl0)) ((World.putObj_heap_other (by omega)).trans hk)⟩
      · exact ⟨some c, _, by have := run_endLoop (P := P) hl (by rw [hrec]; simp); rw [hrec] at this; exact this, hstop _ c pre x rest _ (Nat.le_refl _) hxs (hIx _ _ _ _ _ hi (by omega) ⟨_, hl, rfl⟩) ((World.putObj_heap_other (by omega)).trans hk)⟩
end
end Go.Proofs.Ytfdlhhinomjakaa
