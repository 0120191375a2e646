/-
  Texts of this claim, in their build order: Lib17 OM2.
-/
import Derived.Test.YtbpcapcgbnbknaaGreatOne1
import Derived.Test.YtbpcapcgbnbknaaGreatOne28
import Derived.Test.YtbpcapcgbnbknaaGreatOne30
import Derived.Test.YtbpcapcgbnbknaaGreatOne2

namespace Go.Proofs.YtbpcapcgbnbknaaGreat
section
open Go.RowKit
variable {n : Nat} {P : Program}

/-- An iterator's contract: it gives xs, one after the other, as values that read as them in memory that the loop's body may not write; it reads the blocks of Rd. -/
def SeqV {α : Type} (n : Nat) (P : Program) (g : Nat) (lb : Array Value) (Enc : α → Array Value → (Nat → Prop) → World → Prop) (xs : List α) (Rd : Nat → Prop) (w : World) : Prop :=
  ∀ (l : Nat) (J : List α → (Nat → Prop) → World → Prop) (Jx : List α → World → Prop) (M : Nat → Prop) (W : World),
    Below w.heap.size w W → (∀ k, M k → k < W.heap.size ∧ ¬ Rd k) →
    (∀ pre M1 W1 W2, J pre M1 W1 → Agree W.heap.size M1 W1 W2 → J pre M1 W2) →
    (∀ pre x vs rest M1 W1, xs = pre ++ x :: rest → Enc x vs M1 W1 → J pre M1 W1 → YieldAt Fence.wide (n - 1) P l vs W1 fun e W2 =>
      (e = .returned (.bool true) ∧ ∃ M2, J (pre ++ [x]) M2 W2 ∧ Upd M1 M2 W1 W2) ∨ (e = .returned (.bool false) ∧ Jx (pre ++ [x]) W2)) →
    J [] M W →
    CallsIn Fence.wide n P g (#[.func (.yield l) #[] #[]] ++ lb) W fun e W' => (∃ v, e = .returned v) ∧ ((∃ M', J xs M' W') ∨ (∃ pre x rest, xs = pre ++ x :: rest ∧ Jx (pre ++ [x]) W'))

/-- A range over a function, by the iterator's contract SeqV. -/
theorem wpIn_rangeFunc_V {α : Type} {g : Operand} {ps : Array Tmp} {assign body : Code} {Q : Exit → Act → World → Prop} {a : Act} {w : World} {gf : Nat} {lb : Array Value}
    (hg : a.eval g = .func (.func gf) #[] lb) (eg : ∀ args w, (callFunc gf args).run P w = .ok (.enter gf args) w)
    {Enc : α → Array Value → (Nat → Prop) → World → Prop} {xs : List α} {Rd : Nat → Prop} {w0 : World} (hseq : SeqV (n - 1) P gf lb Enc xs Rd w0) (hb0 : Below w0.heap.size w0 w) (hps : ∀ x vs M1 W, Enc x vs M1 W → vs.size = ps.size)
    (hEn : ∀ x vs M1 M0 W, Enc x vs M1 W → (∀ k, M0 k → M1 k) → Enc x vs M0 W)
    (hRd : ∀ k, Rd k → k < w.heap.size)
    (I : List α → (Nat → Prop) → World → Prop) (Ix : Code → List α → World → Prop) (M : Nat → Prop) (hM : ∀ k, M k → k < w.heap.size ∧ ¬ Rd k)
    (hI : ∀ pre M1 W1 W2, I pre M1 W1 → Agree w.heap.size M1 W1 W2 → I pre M1 W2)
    (hIx : ∀ c pre W1 l o, Ix c pre W1 → w.heap.size ≤ l → (∃ o0, W1.heap[l]? = some o0 ∧ o0.isCells = false) → Ix c pre (W1.putObj l o))
    (I₁ : Act → List α → α → (Nat → Prop) → Act → World → Prop)
    (hI₁ : ∀ pre x M1 a₁ W1 l o, I₁ a pre x M1 a₁ W1 → w.heap.size ≤ l → ¬ M1 l → (∃ o0, W1.heap[l]? = some o0 ∧ o0.isCells = false) → I₁ a pre x M1 a₁ (W1.putObj l o))
    (h0 : I [] M w)
    (hassign : ∀ (l : Nat) (pre : List α) (x : α) (vs : Array Value) (rest : List α) (M1 : Nat → Prop) (W : World), xs = pre ++ x :: rest → Enc x vs M1 W → I pre M1 W → w.heap.size ≤ W.heap.size →
      assign.wpIn (Fence.wide.inRound l) (n - 1 - 1) P (Exit.then (fun a₁ W₁ => ∃ M₂, I₁ a pre x M₂ a₁ W₁ ∧ Upd M1 M₂ W W₁) (fun _ _ _ => False)) { tmps := (ps.zip vs).foldl (fun t (p, v) => t.setIfInBounds p v) a.tmps, defers := [] } W)
    (hbody : ∀ (l : Nat) (pre : List α) (x : α) (rest : List α) (M1 : Nat → Prop) (a₁ : Act) (W : World), xs = pre ++ x :: rest → I₁ a pre x M1 a₁ W → w.heap.size ≤ W.heap.size →
      body.wpIn (Fence.wide.inRound l) (n - 1 - 1) P (postM I Ix (pre ++ [x]) M1 W) a₁ W)
    (hdone : ∀ (D : Nat) (M1 : Nat → Prop) (W : World), w.heap.size ≤ D → ¬ M1 D → I xs M1 W → W.heap[D]? = some (.deferred (some [])) → Q .normal { a with defers := { target := .collected D, args := #[] } :: a.defers } W)
    (hstop : ∀ (D : Nat) (c : Code) (pre : List α) (x : α) (rest : List α) (W : World), w.heap.size ≤ D → xs = pre ++ x :: rest → Ix c (pre ++ [x]) W → W.heap[D]? = some (.deferred (some [])) → c.wpIn Fence.wide n P Q { a with defers := { target := .collected D, args := #[] } :: a.defers } W) :
    (Code.rangeFunc g ps assign body).wpIn Fence.wide n P Q a w := by
  refine wpIn_rangeFunc ?_
  intro fn hfn
  obtain ⟨rec, hrec⟩ : ∃ rec : LoopState → Option Code → Loop, rec = fun st pe => { state := st, pending := pe, fn, tmps := a.tmps, params := ps, assign, body, defers := w.heap.size } := ⟨_, rfl⟩
  obtain ⟨W1, hW1⟩ : ∃ W1, (w.alloc (.deferred (some []))).alloc (.loop (rec .ready none)) = W1 := ⟨_, rfl⟩
  have hL1 : W1.heap[w.heap.size + 1]? = some (.loop (rec .ready none)) := by
    rw [← hW1]; have := World.alloc_heap_new (w.alloc (.deferred (some []))) (.loop (rec .ready none)); rwa [World.size_alloc] at this
  have hK1 : W1.heap[w.heap.size]? = some (.deferred (some [])) := by
    rw [← hW1]; exact (Below.heap_alloc _ _ _ (by simp)).trans (World.alloc_heap_new w _)
  have hsz1 : W1.heap.size = w.heap.size + 2 := by rw [← hW1]; simp
  have hbw : Below w.heap.size w W1 := by rw [← hW1]; exact bAlloc (bAlloc (bSelf w) _) _
  have hI1 : I [] M W1 := hI _ _ _ _ h0 (Agree.of_below hbw (Nat.le_refl _))
  have hb1 : Below w0.heap.size w0 W1 := bThen hb0 hbw
  refine ⟨w.heap.size + 1, [{ target := .collected w.heap.size, args := #[] }], W1, { target := .fn (.func gf) lb, args := #[.func (.yield (w.heap.size + 1)) #[] #[]] }, W1, gf,
    #[.func (.yield (w.heap.size + 1)) #[] #[]] ++ lb, W1, ?_, ?_, ?_, ?_, fun h => by simp [Fence.wide] at h, ?_⟩
  · rw [← hW1, hrec]; exact run_enterLoop_outer _ _ _ _ _
  · simp only [resolve, hg]
    simp [go_sem]
  · intro f' _; trivial
  · simp [invoke, go_sem, eg]
  · refine (hseq (w.heap.size + 1)
      (fun pre M1 W => ∃ M0, (∀ k, M0 k → M1 k) ∧ M1 (w.heap.size + 1) ∧ M1 w.heap.size ∧ ¬ M0 (w.heap.size + 1) ∧ ¬ M0 w.heap.size ∧ I pre M0 W ∧ W.heap[w.heap.size + 1]? = some (.loop (rec .ready none)) ∧ W.heap[w.heap.size]? = some (.deferred (some [])))
      (fun pre W => ∃ c, Ix c pre W ∧ W.heap[w.heap.size + 1]? = some (.loop (rec .done (some c))) ∧ W.heap[w.heap.size]? = some (.deferred (some [])))
      (fun k => M k ∨ k = w.heap.size + 1 ∨ k = w.heap.size) W1 hb1 ?_ ?_ ?_ ⟨M, fun k h => .inl h, .inr (.inl rfl), .inr (.inr rfl), fun h => by have := (hM _ h).1; omega, fun h => by have := (hM _ h).1; omega, hI1, hL1, hK1⟩).mono ?_
    · intro k hk
      rcases hk with hk | rfl | rfl
      · exact ⟨by have := (hM k hk).1; omega, (hM k hk).2⟩
      · exact ⟨by omega, fun h => by have := hRd _ h; omega⟩
      · exact ⟨by omega, fun h => by have := hRd _ h; omega⟩
    · rintro pre M1 Wa Wb ⟨M0, hsub, hl1, hd1, hl0, hd0, hi, hl, hk⟩ hag
      have hlt := (Array.getElem?_eq_some_iff.1 hl).1
      exact ⟨M0, hsub, hl1, hd1, hl0, hd0, hI _ _ _ _ hi (hag.mono (by omega) hsub), (hag.same _ hlt hl1).trans hl, (hag.same _ (by omega) hd1).trans hk⟩
    · rintro pre x vs rest M1 W hxs hen ⟨M0, hsub, hl1, hd1, hl0, hd0, hi, hl, hk⟩
      have hlt : w.heap.size + 1 < W.heap.size := (Array.getElem?_eq_some_iff.1 hl).1
      have hy := run_yield (P := P) (args := vs) hl (by rw [hrec]; exact hps x vs M1 W hen)
      rw [hrec] at hy
      refine ⟨fn, _, assign, body, hy, roundIn_of_wpIn hfn (wpIn_mono (hassign _ pre x vs rest M0 W hxs (hEn _ _ _ _ _ hen hsub) hi (by omega)) ?_)⟩
      intro e a₁ W₁ hp
      cases e with
      | normal =>
        obtain ⟨M₂, hi1, hu1⟩ := hp
        have hnl2 : ¬ M₂ (w.heap.size + 1) := fun h => by exact (hu1.grow _ h).elim (fun h => hl0 h) (fun h => by omega)
        have hnd2 : ¬ M₂ w.heap.size := fun h => by exact (hu1.grow _ h).elim (fun h => hd0 h) (fun h => by omega)
        have hl1' : W₁.heap[w.heap.size + 1]? = some (.loop (rec .ready none)) := (hu1.same _ hlt hl0).trans hl
        have hk1' : W₁.heap[w.heap.size]? = some (.deferred (some [])) := (hu1.same _ (by omega) hd0).trans hk
        have hlt1 : w.heap.size + 1 < W₁.heap.size := (Array.getElem?_eq_some_iff.1 hl1').1
        refine ⟨_, run_beginRound hl1' (by rw [hrec]), ?_⟩
        have hl2 : (W₁.putObj (w.heap.size + 1) (.loop { rec .ready none with state := .busy })).heap[w.heap.size + 1]? = some (.loop { rec .ready none with state := .busy }) := World.putObj_heap_same hlt1
        have hk2 : (W₁.putObj (w.heap.size + 1) (.loop { rec .ready none with state := .busy })).heap[w.heap.size]? = some (.deferred (some [])) := (World.putObj_heap_other (by omega)).trans hk1'
        refine wpIn_mono (hbody _ pre x rest M₂ a₁ _ hxs (hI₁ _ _ _ _ _ _ _ hi1 (by omega) hnl2 ⟨_, hl1', rfl⟩) (by rw [putObj_size']; omega)) ?_
        have fin : ∀ (jump : Option Code) (M3 : Nat → Prop) (W3 : World), Upd M₂ M3 (W₁.putObj (w.heap.size + 1) (.loop { rec .ready none with state := .busy })) W3 →
            (Instr.endRound (w.heap.size + 1) jump).run P W3 = .ok (.bool jump.isNone) (W3.putObj (w.heap.size + 1) (.loop (rec (if jump.isNone then .ready else .done) jump))) ∧
            W3.heap[w.heap.size + 1]? = some (.loop { rec .ready none with state := .busy }) ∧
            (W3.putObj (w.heap.size + 1) (.loop (rec (if jump.isNone then .ready else .done) jump))).heap[w.heap.size + 1]? = some (.loop (rec (if jump.isNone then .ready else .done) jump)) ∧
            (W3.putObj (w.heap.size + 1) (.loop (rec (if jump.isNone then .ready else .done) jump))).heap[w.heap.size]? = some (.deferred (some [])) := fun jump M3 W3 hu3 => by
          have hl3 := (hu3.same _ (by rw [putObj_size']; omega) hnl2).trans hl2
          have hk3 := (hu3.same _ (by rw [putObj_size']; omega) hnd2).trans hk2
          have := run_endRound (P := P) jump hl3
          rw [hrec] at this ⊢
          exact ⟨this, by rw [hrec] at hl3; exact hl3, World.putObj_heap_same (Array.getElem?_eq_some_iff.1 hl3).1, (World.putObj_heap_other (by omega)).trans hk3⟩
        have hupd : ∀ (jump : Option Code) (M3 : Nat → Prop) (W3 : World), Upd M₂ M3 (W₁.putObj (w.heap.size + 1) (.loop { rec .ready none with state := .busy })) W3 →
            Upd M1 (fun k => M3 k ∨ k = w.heap.size + 1 ∨ k = w.heap.size) W (W3.putObj (w.heap.size + 1) (.loop (rec (if jump.isNone then .ready else .done) jump))) := fun jump M3 W3 hu3 => by
          have hsz3 := hu3.size
          rw [putObj_size'] at hsz3
          refine ⟨hu3.os.trans hu1.os, hu3.tape.trans hu1.tape, hu3.output.trans hu1.output, by rw [putObj_size']; exact Nat.le_trans hu1.size hsz3, fun k hk hm => ?_, fun k hk => ?_, fun k hk => ?_⟩
          · have hkl : k ≠ w.heap.size + 1 := fun e => hm (e ▸ hl1)
            have hm0 : ¬ M0 k := fun h => hm (hsub k h)
            have hm2 : ¬ M₂ k := fun h => by exact (hu1.grow k h).elim (fun h2 => hm0 h2) (fun h2 => by omega)
            rw [World.putObj_heap_other hkl, hu3.same k (by rw [putObj_size']; exact Nat.lt_of_lt_of_le hk hu1.size) hm2, World.putObj_heap_other hkl, hu1.same k hk hm0]
          · rcases hk with hk | rfl | rfl
            · rcases hu3.grow k hk with h2 | h2
              · rcases hu1.grow k h2 with h3 | h3
                · exact .inl (hsub k h3)
                · exact .inr h3
              · rw [putObj_size'] at h2; exact .inr (Nat.le_trans hu1.size h2)
            · exact .inl hl1
            · exact .inl hd1
          · rw [putObj_size']
            rcases hk with hk | rfl | rfl
            · exact hu3.fit k hk
            · omega
            · omega
        rintro e a3 W3 hp
        cases e with
        | normal =>
          obtain ⟨M3, hi3, hu3⟩ := hp
          obtain ⟨hr, hl3, hl4, hk4⟩ := fin none M3 W3 hu3
          have hnl3 : ¬ M3 (w.heap.size + 1) := fun h => by exact (hu3.grow _ h).elim (fun h => hnl2 h) (fun h => by rw [putObj_size'] at h; omega)
          have hnd3 : ¬ M3 w.heap.size := fun h => by exact (hu3.grow _ h).elim (fun h => hnd2 h) (fun h => by rw [putObj_size'] at h; omega)
          exact ⟨_, _, hr, .inl ⟨rfl, _, ⟨M3, fun k h => .inl h, .inr (.inl rfl), .inr (.inr rfl), hnl3, hnd3, hI _ _ _ _ hi3 (Agree.putObj _ _ _ (by omega) hnl3), hl4, hk4⟩, hupd none M3 W3 hu3⟩⟩
        | ret =>
          obtain ⟨M3, hi3, hu3⟩ := hp
          obtain ⟨hr, hl3, hl4, hk4⟩ := fin (some .ret) M3 W3 hu3
          exact ⟨_, _, hr, .inr ⟨rfl, .ret, hIx _ _ _ _ _ hi3 (by omega) ⟨_, hl3, rfl⟩, hl4, hk4⟩⟩
        | exit id =>
          obtain ⟨M3, hi3, hu3⟩ := hp
          obtain ⟨hr, hl3, hl4, hk4⟩ := fin (some (.exit id)) M3 W3 hu3
          exact ⟨_, _, hr, .inr ⟨rfl, .exit id, hIx _ _ _ _ _ hi3 (by omega) ⟨_, hl3, rfl⟩, hl4, hk4⟩⟩
        | goto t =>
          obtain ⟨M3, hi3, hu3⟩ := hp
          obtain ⟨hr, hl3, hl4, hk4⟩ := fin (some (.goto t)) M3 W3 hu3
          exact ⟨_, _, hr, .inr ⟨rfl, .goto t, hIx _ _ _ _ _ hi3 (by omega) ⟨_, hl3, rfl⟩, hl4, hk4⟩⟩
        | panic ch => exact hp.elim
        | outgrown => exact hp.elim
      | exit id => exact hp.elim
      | goto t => exact hp.elim
      | ret => exact hp.elim
      | panic ch => exact hp.elim
      | outgrown => exact hp.elim
    · rintro e W2 ⟨⟨v, rfl⟩, (⟨M', M0, hsub, hl1, hd1, hl0, hd0, hi, hl, hk⟩ | ⟨pre, x, rest, hxs, c, hi, hl, hk⟩)⟩
      · have hlt := (Array.getElem?_eq_some_iff.1 hl).1
        exact ⟨none, _, by have := run_endLoop (P := P) hl (by rw [hrec]; simp); rw [hrec] at this; exact this, hdone _ M0 _ (Nat.le_refl _) hd0 (hI _ _ _ _ hi (Agree.putObj _ _ _ (by omega) hl0)) ((World.putObj_heap_other (by omega)).trans hk)⟩
      · exact ⟨some c, _, by have := run_endLoop (P := P) hl (by rw [hrec]; simp); rw [hrec] at this; exact this, hstop _ c pre x rest _ (Nat.le_refl _) hxs (hIx _ _ _ _ _ hi (by omega) ⟨_, hl, rfl⟩) ((World.putObj_heap_other (by omega)).trans hk)⟩
end
section
open Go.RowKit

def ag (now : List (OSt × List Int)) (i : Nat) : OSt × List Int := now.getD i ((0, false), [])
theorem ag_lt {now : List (OSt × List Int)} {i : Nat} (h : i < now.length) : ag now i = now[i] := by simp [ag, h]
theorem ag_mem {now : List (OSt × List Int)} {i : Nat} (h : i < now.length) : ag now i ∈ now := by rw [ag_lt h]; exact List.getElem_mem h
def arrF (now : List (OSt × List Int)) (ds : Nat → Option Addr × Nat) (i : Nat) : Value :=
  if i % 3 = 0 then .int .i64 (ag now (i / 3)).1.1 else if i % 3 = 1 then .bool (ag now (i / 3)).1.2 else .slice (ds (i / 3)).1 (ag now (i / 3)).2.length (ds (i / 3)).2
theorem arrF0 (now : List (OSt × List Int)) (ds : Nat → Option Addr × Nat) (i : Nat) : arrF now ds (i * 3) = .int .i64 (ag now i).1.1 := by unfold arrF; rw [if_pos (by omega), show i * 3 / 3 = i by omega]
theorem arrF1 (now : List (OSt × List Int)) (ds : Nat → Option Addr × Nat) (i : Nat) : arrF now ds (i * 3 + 1) = .bool (ag now i).1.2 := by unfold arrF; rw [if_neg (by omega), if_pos (by omega), show (i * 3 + 1) / 3 = i by omega]
theorem arrF2 (now : List (OSt × List Int)) (ds : Nat → Option Addr × Nat) (i : Nat) : arrF now ds (i * 3 + 1 + 1) = .slice (ds i).1 (ag now i).2.length (ds i).2 := by unfold arrF; rw [if_neg (by omega), if_neg (by omega), show (i * 3 + 1 + 1) / 3 = i by omega]

theorem Reads.putObj {W : World} {a : Option Addr} {m : Nat} {f : Nat → Value} (h : Reads W a m f) {l : Nat} (o : Obj) (hl : ∃ o0, W.heap[l]? = some o0 ∧ o0.isCells = false) : Reads (W.putObj l o) a m f := by
  rcases h with h | ⟨b, off, ha, hlt, hc⟩
  · exact .inl h
  · by_cases hm : m = 0
    · exact .inl hm
    · have hbl : b ≠ l := by
        intro e
        subst e
        obtain ⟨o0, ho, hi⟩ := hl
        have := hc 0 (by omega)
        unfold World.cell? at this
        simp only [ho] at this
        cases o0 <;> simp_all [Obj.isCells]
      exact .inr ⟨b, off, ha, by rw [putObj_size']; exact hlt, fun i hi => by rw [← hc i hi]; exact World.cell?_of_block (w := W) (a := ⟨b, off + i, none⟩) (World.putObj_heap_other hbl)⟩

/-- A level in memory that the loop's body may not write. -/
structure LvAt (W : World) (M : Nat → Prop) (a : Option Addr) (now : List (OSt × List Int)) (ds : Nat → Option Addr × Nat) : Prop where
  rd : Reads W a (now.length * 3) (arrF now ds)
  dm : ∀ k, k < now.length → Reads W (ds k).1 (ag now k).2.length (ints (ag now k).2)
  na : ∀ p, a = some p → ¬ M p.block ∧ p.block < W.heap.size
  nd : ∀ k, k < now.length → ∀ p, (ds k).1 = some p → ¬ M p.block ∧ p.block < W.heap.size
  ln : ∀ k, k < now.length → (ag now k).2.length ≤ (ds k).2
theorem not_upd {W W' : World} {M M' : Nat → Prop} (hu : Upd M M' W W') {b : Nat} (h : ¬ M b ∧ b < W.heap.size) : ¬ M' b ∧ b < W'.heap.size :=
  ⟨fun hm => (hu.grow b hm).elim h.1 (fun h2 => by omega), Nat.lt_of_lt_of_le h.2 hu.size⟩
theorem LvAt.upd {W W' : World} {M M' : Nat → Prop} {a : Option Addr} {now : List (OSt × List Int)} {ds : Nat → Option Addr × Nat} (h : LvAt W M a now ds) (hu : Upd M M' W W') : LvAt W' M' a now ds :=
  ⟨h.rd.upd hu (fun _ _ e => (h.na _ e).1), fun k hk => (h.dm k hk).upd hu (fun _ _ e => (h.nd k hk _ e).1), fun p e => not_upd hu (h.na p e), fun k hk p e => not_upd hu (h.nd k hk p e), h.ln⟩
theorem LvAt.to {W W' : World} {M : Nat → Prop} {a : Option Addr} {now : List (OSt × List Int)} {ds : Nat → Option Addr × Nat} (h : LvAt W M a now ds) (hb : Below W.heap.size W W') : LvAt W' M a now ds :=
  ⟨h.rd.to hb, fun k hk => (h.dm k hk).to hb, fun p e => ⟨(h.na p e).1, Nat.lt_of_lt_of_le (h.na p e).2 hb.size⟩, fun k hk p e => ⟨(h.nd k hk p e).1, Nat.lt_of_lt_of_le (h.nd k hk p e).2 hb.size⟩, h.ln⟩
theorem LvAt.putObj {W : World} {M : Nat → Prop} {a : Option Addr} {now : List (OSt × List Int)} {ds : Nat → Option Addr × Nat} (h : LvAt W M a now ds) {l : Nat} (o : Obj) (hl : ∃ o0, W.heap[l]? = some o0 ∧ o0.isCells = false) : LvAt (W.putObj l o) M a now ds :=
  ⟨h.rd.putObj o hl, fun k hk => (h.dm k hk).putObj o hl, fun p e => by rw [putObj_size']; exact h.na p e, fun k hk p e => by rw [putObj_size']; exact h.nd k hk p e, h.ln⟩
theorem LvAt.less {W : World} {M M' : Nat → Prop} {a : Option Addr} {now : List (OSt × List Int)} {ds : Nat → Option Addr × Nat} (h : LvAt W M a now ds) (hm : ∀ k, M' k → M k) : LvAt W M' a now ds :=
  ⟨h.rd, h.dm, fun p e => ⟨fun hk => (h.na p e).1 (hm _ hk), (h.na p e).2⟩, fun k hk p e => ⟨fun hq => (h.nd k hk p e).1 (hm _ hq), (h.nd k hk p e).2⟩, h.ln⟩

/-- What emptied the plant, in memory that the loop's body may not write. -/
def EmAt (W : World) (M : Nat → Prop) (v : Value) : Option (List Int) → Prop
  | none => v = .slice none 0 0
  | some e => ∃ ad c, v = .slice (some ad) e.length c ∧ e.length ≤ c ∧ Reads W (some ad) e.length (ints e) ∧ ¬ M ad.block ∧ ad.block < W.heap.size
theorem EmAt.upd {W W' : World} {M M' : Nat → Prop} {v : Value} {o : Option (List Int)} (h : EmAt W M v o) (hu : Upd M M' W W') : EmAt W' M' v o := by
  cases o with
  | none => exact h
  | some e =>
    obtain ⟨ad, c, e1, e2, h3, h4, h5⟩ := h
    have := not_upd hu ⟨h4, h5⟩
    exact ⟨ad, c, e1, e2, h3.upd hu (fun b off e => by cases e; exact h4), this.1, this.2⟩
theorem EmAt.to {W W' : World} {M : Nat → Prop} {v : Value} {o : Option (List Int)} (h : EmAt W M v o) (hb : Below W.heap.size W W') : EmAt W' M v o := by
  cases o with
  | none => exact h
  | some e =>
    obtain ⟨ad, c, e1, e2, h3, h4, h5⟩ := h
    exact ⟨ad, c, e1, e2, h3.to hb, h4, Nat.lt_of_lt_of_le h5 hb.size⟩
theorem EmAt.putObj {W : World} {M : Nat → Prop} {v : Value} {o : Option (List Int)} (h : EmAt W M v o) {l : Nat} (ob : Obj) (hl : ∃ o0, W.heap[l]? = some o0 ∧ o0.isCells = false) : EmAt (W.putObj l ob) M v o := by
  cases o with
  | none => exact h
  | some e =>
    obtain ⟨ad, c, e1, e2, h3, h4, h5⟩ := h
    exact ⟨ad, c, e1, e2, h3.putObj ob hl, h4, by rw [putObj_size']; exact h5⟩
theorem EmAt.less {W : World} {M M' : Nat → Prop} {v : Value} {o : Option (List Int)} (h : EmAt W M v o) (hm : ∀ k, M' k → M k) : EmAt W M' v o := by
  cases o with
  | none => exact h
  | some e =>
    obtain ⟨ad, c, e1, e2, h3, h4, h5⟩ := h
    exact ⟨ad, c, e1, e2, h3, fun hk => h4 (hm _ hk), h5⟩

abbrev TkI := List (OSt × List Int) × Option (List Int)
/-- What the iterator hands over. -/
def TkEnc (x : TkI) (vs : Array Value) (M : Nat → Prop) (W : World) : Prop :=
  ∃ a c v ds, vs = #[.slice a x.1.length c, v] ∧ x.1.length ≤ c ∧ LvAt W M a x.1 ds ∧ EmAt W M v x.2
theorem TkEnc.size {x : TkI} {vs : Array Value} {M : Nat → Prop} {W : World} (h : TkEnc x vs M W) : vs.size = 2 := by obtain ⟨a, c, v, ds, rfl, -⟩ := h; rfl
theorem TkEnc.less {x : TkI} {vs : Array Value} {M M' : Nat → Prop} {W : World} (h : TkEnc x vs M W) (hm : ∀ k, M' k → M k) : TkEnc x vs M' W := by
  obtain ⟨a, c, v, ds, e, hc, h1, h2⟩ := h
  exact ⟨a, c, v, ds, e, hc, h1.less hm, h2.less hm⟩

/-- What the iterator yields behind a level. -/
def tksT (p : Plt) : List (Int × Int) → List (OSt × List Int) → List TkI
  | [], _ => []
  | r :: rs, now => match (tkL p r now).emp with
    | some e => [((tkL p r now).aft, some e)]
    | none => tks p rs (tkL p r now).aft
theorem tks_eq (p : Plt) (rs : List (Int × Int)) (now : List (OSt × List Int)) : tks p rs now = (now, none) :: tksT p rs now := by
  cases rs with
  | nil => rfl
  | cons r rs => unfold tks tksT; rfl
end
end Go.Proofs.YtbpcapcgbnbknaaGreat
