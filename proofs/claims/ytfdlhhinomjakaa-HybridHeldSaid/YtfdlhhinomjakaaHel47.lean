/-
  Texts of this claim, in their build order: BS14.
-/
import Derived.Test.YtfdlhhinomjakaaHel46
import Derived.Test.YtfdlhhinomjakaaHel38
import Derived.Test.YtfdlhhinomjakaaHel33
import Derived.RangeFuncBox

namespace Go.Proofs.Ytfdlhhinomjakaa
section
open Go.RowKit

section
variable {α : Type} {nx : α → Int → Option α} {F : List Int}
theorem SrQ.len {s0 : α} {i : Nat} {s : Sr α} (h : SrQ nx F s0 i s) : ∀ (j : Nat) (hj : j < s.fnd.length), (s.fnd[j]).2.length ≤ j := by
  intro j
  induction j using Nat.strongRecOn with
  | _ j ih =>
    intro hj
    rcases h.inv.sub _ (List.getElem_mem hj) with e | hm
    · rw [e]; exact Nat.zero_le _
    · obtain ⟨b, hb, hw⟩ := List.mem_flatMap.1 hm
      obtain ⟨g, -, e⟩ := List.mem_map.1 hw
      obtain ⟨k, hk, hbk⟩ := List.mem_iff_getElem.1 hb
      rw [List.length_take] at hk
      rw [List.getElem_take] at hbk
      have hl : (s.fnd[j]).2.length = b.2.length + 1 := by rw [← e, List.length_append]; rfl
      by_cases hkj : k < j
      · have h1 := ih k hkj (by omega)
        rw [hbk] at h1
        omega
      · have h2 : cmpW (s.fnd[j]).2 b.2 ≤ 0 := by
          by_cases e2 : k = j
          · subst e2; rw [hbk] at hl; omega
          · have := List.pairwise_iff_getElem.1 h.inv.srt j k hj (by omega) (by omega)
            rw [hbk] at this
            exact Int.le_of_lt this
        have := cmpW_len h2
        omega
theorem SrQ.pre [DecidableEq α] {s0 : α} {i : Nat} {s : Sr α} (h : SrQ nx F s0 i s) (hp : F.Pairwise (· < ·)) {a : α × List Int} (hi : s.fnd[i]? = some a) {pre rest : List Int} (hF : F = pre ++ rest) (hs : (pre.foldl (srC nx a) s).stp = none) :
    (∃ m, (pre.foldl (srC nx a) s).fnd = s.fnd ++ m) ∧ ((pre.foldl (srC nx a) s).fnd.map (·.1)).Nodup ∧ ∀ b ∈ (pre.foldl (srC nx a) s).fnd, goW nx s0 b.2 = some b.1 := by
  obtain ⟨hil, hia⟩ := List.getElem?_eq_some_iff.1 hi
  have hmem : a ∈ s.fnd := List.mem_of_getElem? hi
  have ha := h.inv.way a hmem
  have hlt : ∀ b ∈ s.fnd.take i, cmpW b.2 a.2 < 0 := fun b hb => by
    obtain ⟨j, hj, hbj⟩ := List.mem_iff_getElem.1 hb
    rw [List.length_take] at hj
    rw [List.getElem_take] at hbj
    have := List.pairwise_iff_getElem.1 h.inv.srt j i (by omega) hil (by omega)
    rw [hbj, hia] at this
    exact this
  have hd : ∀ w ∈ cndQ F (s.fnd.take i), ∀ f ∈ pre, cmpW w (a.2 ++ [f]) < 0 := fun w hw f _ => by
    obtain ⟨b, hb, hw⟩ := List.mem_flatMap.1 hw
    obtain ⟨g, -, rfl⟩ := List.mem_map.1 hw
    exact cmpW_lt1 g f (hlt b hb)
  have hpp : pre.Pairwise (· < ·) := by rw [hF] at hp; exact (List.pairwise_append.1 hp).1
  refine ⟨fold_pre _ _, ?_⟩
  rcases fold_law ha pre s _ h.inv h.go (fun f hf => by rw [hF]; exact List.mem_append_left _ hf) hpp hd with ⟨-, r2⟩ | ⟨p1, f, p2, s', r1, r2, r3, r4, r5⟩
  · exact ⟨r2.nd, fun b hb => (r2.way b hb).1⟩
  · rw [r5] at hs; cases hs
end
theorem SrQ.out_of {α : Type} [DecidableEq α] {nx : α → Int → Option α} {F : List Int} {s0 : α} {i : Nat} {s : Sr α} (h : SrQ nx F s0 i s) (hp : F.Pairwise (· < ·)) {a : α × List Int} (hi : s.fnd[i]? = some a) {pre rest : List Int} {f : Int} (hF : F = pre ++ f :: rest) {w : List Int} (hs : ((pre ++ [f]).foldl (srC nx a) s).stp = some w) : OutW nx F s0 w := by
  have e : (srI nx F s a).stp = some w := by
    unfold srI
    rw [hF, List.append_cons, List.foldl_append, fold_stp _ hs]
    exact hs
  rcases h.step hp hi with h1 | ⟨w', h1, h2⟩
  · rw [h1.go] at e; cases e
  · rw [h1] at e; cases e; exact h2
theorem QRow.none {W : World} {B size g off n cap : Nat} {xs : List Value} (h : QRow W B size g off n cap xs) : QRow W B size g off 0 0 [] :=
  ⟨by simp, h.base, h.lt, Nat.le_refl _, Nat.zero_le _, fun j hj => by simp at hj, fun j u hu => by simp at hu⟩
/-- The queue's head is taken off, into a box of its own. -/
theorem SchM.next {x : HT} {l : List (List Int × List Int)} {i n0 bm b4 b5 B g off n cap : Nat} {dw : List Int → Option Addr × Nat} {W : World} (h : SchM x l i n0 bm b4 b5 B g off n cap dw W) (hil : i < l.length) (hn : n + i = l.length) {off' : Nat} (ho : off' = if cap = 1 then off else off + 4) (T : TypeId) :
    SchM x l (i + 1) n0 bm b4 W.heap.size B g off' (n - 1) (cap - 1) dw (W.alloc (.cells #[.slice (some ⟨g, off', none⟩) (n - 1) (cap - 1)] T)) := by
  have hb : Below W.heap.size W (W.alloc (.cells #[.slice (some ⟨g, off', none⟩) (n - 1) (cap - 1)] T)) := bAlloc (bSelf _) _
  have hk : Blk (W.alloc (.cells #[.slice (some ⟨g, off', none⟩) (n - 1) (cap - 1)] T)) W.heap.size #[.slice (some ⟨g, off', none⟩) (n - 1) (cap - 1)] := Blk.new _ _ _
  obtain ⟨We, hWe⟩ : ∃ u, W.alloc (.cells #[.slice (some ⟨g, off', none⟩) (n - 1) (cap - 1)] T) = u := ⟨_, rfl⟩
  rw [hWe] at hb hk ⊢
  clear hWe
  have h2 := h.to hb
  refine ⟨h2.k1, h2.mp, h2.k4, hk, ?_, fun a ha => ⟨(h2.wy a ha).1, fun q hq => ?_⟩, h.lt1, h.lt2, h.lt3, h.k4.1, by have := h.qu.lt; omega⟩
  · have hr := h.qu.room
    by_cases hc : cap = 1
    · rw [if_pos hc] at ho
      have e1 : n - 1 = 0 := by omega
      have e2 : cap - 1 = 0 := by omega
      have e3 : (l.map (·.1)).drop (i + 1) = [] := List.drop_eq_nil_of_le (by rw [List.length_map]; omega)
      rw [e1, e2, e3, ho]
      exact h2.qu.none
    · rw [if_neg hc] at ho
      rw [ho]
      have hq := h2.qu
      rw [List.drop_eq_getElem_cons (by rw [List.length_map]; exact hil)] at hq
      obtain ⟨k, hk⟩ : ∃ k, n = k + 1 := ⟨n - 1, by omega⟩
      rw [hk] at hq ⊢
      obtain ⟨z, hz⟩ : ∃ z, (l.map (·.1))[i]'(by rw [List.length_map]; exact hil) = z := ⟨_, rfl⟩
      rw [hz] at hq
      exact QRow.tail (x1 := [.int .i64 (gi z 0), .int .i64 (gi z 1), .int .i64 (gi z 2), .int .i64 (gi z 3)]) (xs := hcells ((l.map (·.1)).drop (i + 1))) hq rfl
  · obtain ⟨q1, q2, q3, q4⟩ := (h.wy a ha).2 q hq
    exact ⟨Nat.lt_of_lt_of_le q1 hb.size, q2, q3, by omega⟩

/-- A round's state: the forces of pre are done. -/
structure SchJ (x : HT) (l : List (List Int × List Int)) (i n0 bm b4 b5 B b6 BB : Nat) (a : List Int) (w : World) (ds : List Deferred) (g off n cap : Nat) (dw : List Int → Option Addr × Nat) (M : Nat → Prop) (W : World) : Prop where
  mem : SchM x l i n0 bm b4 b5 B g off n cap dw W
  k2 : Blk W (n0 + 1) #[.map none]
  k3 : Blk W (n0 + 1 + 1) #[.slice none 0 0]
  k6 : Blk W b6 #[.int .i64 (gi a 0), .int .i64 (gi a 1), .int .i64 (gi a 2), .int .i64 (gi a 3)]
  bel : Below n0 w W
  mks : Marks ds W
  cov : ∀ k, SchB l n0 bm b4 b5 g dw k → k < BB ∨ M k
  low : ∀ k, k = n0 ∨ k = b4 ∨ k = b6 ∨ (∃ d ∈ ds, d.target = .collected k) → k < BB ∧ ¬ M k
  lt0 : n0 + 1 + 1 < bm
  lo2 : n0 + 1 + 1 < BB
  m2 : M (n0 + 1)
  m3 : M (n0 + 1 + 1)
  mm : M bm
  m5 : M b5
  mg : M g
  sm : ∀ b ∈ l, ∃ q, (dw b.1).1 = some q ∧ b.2.length ≤ (dw b.1).2
  fit : ∀ k, M k → k < W.heap.size ∧ n0 ≤ k
section
variable {x : HT} {l : List (List Int × List Int)} {i n0 bm b4 b5 B b6 BB : Nat} {a : List Int} {w : World} {ds : List Deferred} {g off n cap : Nat} {dw : List Int → Option Addr × Nat} {M : Nat → Prop} {W : World}
theorem SchJ.agree {W' : World} (h : SchJ x l i n0 bm b4 b5 B b6 BB a w ds g off n cap dw M W) (hag : Agree BB M W W') : SchJ x l i n0 bm b4 b5 B b6 BB a w ds g off n cap dw M W' := by
  have hl : ∀ k, k = n0 ∨ k = b4 ∨ k = b6 ∨ (∃ d ∈ ds, d.target = .collected k) → W'.heap[k]? = W.heap[k]? := fun k hk => hag.low k (h.low k hk).1
  have h0 := (h.low n0 (.inl rfl)).1
  have h2 := h.lo2
  exact ⟨h.mem.agree hag h.cov, h.k2.same (hag.low _ (by omega)), h.k3.same (hag.low _ h2), h.k6.same (hl _ (.inr (.inr (.inl rfl)))),
    h.bel.trans (hag.below.mono (by omega)), h.mks.same (fun D hD => hl D (.inr (.inr (.inr hD)))), h.cov, h.low, h.lt0, h.lo2, h.m2, h.m3, h.mm, h.m5, h.mg, h.sm, fun k hk => ⟨Nat.lt_of_lt_of_le (h.fit k hk).1 hag.size, (h.fit k hk).2⟩⟩
theorem SchJ.to {W' : World} (h : SchJ x l i n0 bm b4 b5 B b6 BB a w ds g off n cap dw M W) (hb : Below W.heap.size W W') : SchJ x l i n0 bm b4 b5 B b6 BB a w ds g off n cap dw M W' :=
  ⟨h.mem.to hb, h.k2.to hb, h.k3.to hb, h.k6.to hb, h.bel.trans (hb.mono (by have := h.mem.k1.1; omega)), h.mks.to hb, h.cov, h.low, h.lt0, h.lo2, h.m2, h.m3, h.mm, h.m5, h.mg, h.sm, fun k hk => ⟨Nat.lt_of_lt_of_le (h.fit k hk).1 hb.size, (h.fit k hk).2⟩⟩
/-- One more state. -/
theorem SchJ.add {g' off' cap' : Nat} {Wa W1 W3 : World} {t ws : List Int} {p : Option Addr × Nat} {ob : Obj} (h : SchJ x l i n0 bm b4 b5 B b6 BB a w ds g off n cap dw M W)
    (hu : Upd M M Wa W) (hfa : ∀ k, M k → k < Wa.heap.size) (hBB : BB ≤ Wa.heap.size)
    (hw : Reads W p.1 ws.length (ints ws)) (hp : ∃ q, p.1 = some q ∧ Wa.heap.size ≤ q.block ∧ q.block < W.heap.size) (hc : ws.length ≤ p.2) (hnew : ¬ t ∈ l.map (·.1)) (hi : i ≤ l.length)
    (hmap : MapV W1 bm (l.length + 1) (fun z => if z = t then some (.slice p.1 ws.length p.2) else wayF l dw z)) (hg1 : W.grownBy W1 (some bm))
    (hq : QRow W3 B 4 g' off' (n + 1) cap' (hcells ((l.map (·.1)).drop i) ++ [.int .i64 (gi t 0), .int .i64 (gi t 1), .int .i64 (gi t 2), .int .i64 (gi t 3)])) (hg3 : (W1.alloc ob).grownBy W3 (some g)) (hgg : g' = g ∨ (W1.alloc ob).heap.size ≤ g') :
    ∃ M', SchJ x (l ++ [(t, ws)]) i n0 bm b4 b5 B b6 BB a w ds g' off' (n + 1) cap' (dwA dw t p) M' (W3.setCell ⟨b5, 0, none⟩ (.slice (some ⟨g', off', none⟩) (n + 1) cap')) ∧ Upd M M' Wa (W3.setCell ⟨b5, 0, none⟩ (.slice (some ⟨g', off', none⟩) (n + 1) cap')) := by
  obtain ⟨q, hq1, hq2, hq3⟩ := hp
  have hbm := hfa _ h.mm
  have hb5 := hfa _ h.m5
  have hbg := hfa _ h.mg
  have hs1 := hg1.size
  have hs3 := hg3.size
  simp only [World.size_alloc] at hs3
  have hgs : g' = g ∨ W1.heap.size + 1 ≤ g' := by simpa using hgg
  have hWa := hu.size
  have g4 := grownBy_setCell' W3 b5 (.slice (some ⟨g', off', none⟩) (n + 1) cap')
  have h1 := h.mem.add (W1 := W1) (W3 := W3) (ob := ob) hw (fun q' e => by
    rw [hq1] at e
    cases e
    exact ⟨hq3, by omega, by omega, by omega⟩) hnew hi hmap hg1 hq hg3 hgg
  have hs4 := g4.size
  obtain ⟨We, hWe⟩ : ∃ We, W3.setCell ⟨b5, 0, none⟩ (.slice (some ⟨g', off', none⟩) (n + 1) cap') = We := ⟨_, rfl⟩
  rw [hWe] at h1 g4 hs4 ⊢
  have hsame : ∀ k, k < W.heap.size → k ≠ bm → k ≠ g → k ≠ b5 → We.heap[k]? = W.heap[k]? := fun k hk e1 e2 e3 => by
    rw [g4.block k (by omega) (fun e => e3 (by injection e)), hg3.block k (by simp only [World.size_alloc]; omega) (fun e => e2 (by injection e)), Below.heap_alloc _ _ _ (by omega), hg1.block k hk (fun e => e1 (by injection e))]
  have hsM : ∀ k, k < W.heap.size → ¬ M k → We.heap[k]? = W.heap[k]? := fun k hk hm => hsame k hk (fun e => hm (e ▸ h.mm)) (fun e => hm (e ▸ h.mg)) (fun e => hm (e ▸ h.m5))
  have hlo : ∀ k, k = n0 ∨ k = b4 ∨ k = b6 ∨ (∃ d ∈ ds, d.target = .collected k) → We.heap[k]? = W.heap[k]? := fun k hk => by
    have := h.low k hk
    exact hsM k (by omega) this.2
  have hl0 := h.lt0
  have hl2 := h.lo2
  have hM2 := h.mem.lt2
  have hM3 := h.mem.lt3
  have hM4 := h.mem.lt4
  have hMb := h.mem.qu.base
  have hr : ∀ k, k = n0 + 1 ∨ k = n0 + 1 + 1 → We.heap[k]? = W.heap[k]? := fun k hk => hsame k (by omega) (by omega) (by omega) (by omega)
  have hgl := hq.lt
  have hos : We.os = w.os ∧ We.tape = w.tape ∧ We.output = w.output := ⟨g4.os.trans (hg3.os.trans (hg1.os.trans h.bel.os)), g4.tape.trans (hg3.tape.trans (hg1.tape.trans h.bel.tape)), g4.output.trans (hg3.output.trans (hg1.output.trans h.bel.output))⟩
  have hosW : We.os = W.os ∧ We.tape = W.tape ∧ We.output = W.output := ⟨g4.os.trans (hg3.os.trans hg1.os), g4.tape.trans (hg3.tape.trans hg1.tape), g4.output.trans (hg3.output.trans hg1.output)⟩
  refine ⟨fun k => M k ∨ k = g' ∨ k = q.block, ⟨h1, h.k2.same (hr _ (.inl rfl)), h.k3.same (hr _ (.inr rfl)), h.k6.same (hlo _ (.inr (.inr (.inl rfl)))), ?_, h.mks.same (fun D hD => hlo D (.inr (.inr (.inr hD)))), ?_, fun k hk => ?_, hl0, hl2, .inl h.m2, .inl h.m3, .inl h.mm, .inl h.m5, .inr (.inl rfl), ?_, fun k hk => ?_⟩, ?_⟩
  · refine ⟨hos.1, hos.2.1, hos.2.2, by have := h.bel.size; omega, fun k hk => ?_⟩
    have hn0 := h.low n0 (.inl rfl)
    rw [hsM k (by omega) (fun hm => by have := (h.fit k hm).2; omega)]
    exact h.bel.block k hk
  · rintro k (rfl | rfl | rfl | rfl | rfl | ⟨b, hb, q', hq', rfl⟩)
    · exact (h.cov _ (.inl rfl)).imp id .inl
    · exact (h.cov _ (.inr (.inl rfl))).imp id .inl
    · exact (h.cov _ (.inr (.inr (.inl rfl)))).imp id .inl
    · exact (h.cov _ (.inr (.inr (.inr (.inl rfl))))).imp id .inl
    · exact .inr (.inr (.inl rfl))
    · rcases List.mem_append.1 hb with hb | hb
      · have e1 : dwA dw t p b.1 = dw b.1 := by unfold dwA; rw [if_neg (fun e => hnew (by rw [← e]; exact List.mem_map_of_mem hb))]
        rw [e1] at hq'
        exact (h.cov _ (.inr (.inr (.inr (.inr (.inr ⟨b, hb, q', hq', rfl⟩)))))).imp id .inl
      · have : b = (t, ws) := by simpa using hb
        subst this
        have e1 : dwA dw t p t = p := by unfold dwA; rw [if_pos rfl]
        dsimp only at hq'
        rw [e1, hq1] at hq'
        cases hq'
        exact .inr (.inr (.inr rfl))
  · obtain ⟨l1, l2⟩ := h.low k hk
    refine ⟨l1, ?_⟩
    rintro (hm | e | e)
    · exact l2 hm
    · rcases hgs with e2 | e2
      · rw [e, e2] at l2; exact l2 h.mg
      · omega
    · omega
  · intro b hb
    rcases List.mem_append.1 hb with hb | hb
    · have e1 : dwA dw t p b.1 = dw b.1 := by unfold dwA; rw [if_neg (fun e => hnew (by rw [← e]; exact List.mem_map_of_mem hb))]
      rw [e1]
      exact h.sm b hb
    · have : b = (t, ws) := by simpa using hb
      subst this
      have e1 : dwA dw t p t = p := by unfold dwA; rw [if_pos rfl]
      dsimp only
      rw [e1]
      exact ⟨q, hq1, hc⟩
  · have hn0 := (h.low n0 (.inl rfl)).1
    rcases hk with hk | rfl | rfl
    · have := h.fit k hk; exact ⟨by omega, this.2⟩
    · have := (h.fit g h.mg).2
      exact ⟨by omega, by omega⟩
    · exact ⟨by omega, by omega⟩
  · refine ⟨hosW.1.trans hu.os, hosW.2.1.trans hu.tape, hosW.2.2.trans hu.output, by omega, fun k hk hm => (hsM k (by omega) hm).trans (hu.same k hk hm), fun k hk => ?_, fun k hk => ?_⟩
    · rcases hk with hk | rfl | rfl
      · exact .inl hk
      · rcases hgs with e | e
        · rw [e]; exact .inl h.mg
        · exact .inr (by omega)
      · exact .inr hq2
    · rcases hk with hk | rfl | rfl
      · have := hfa k hk; omega
      · omega
      · omega
end
/-- A way that was made by append. -/
theorem way_row {W : World} {B g c la : Nat} {ws : List Int} {f : Int} {e : TypeId} (hl : ws.length = la) (h : W.ownsRow B e 1 (.slice (some ⟨g, 0, none⟩) (la + 1) c) (la + 1) (ws.map (fun z => Value.int .i64 z) ++ [.int .i64 f])) :
    Reads W (some ⟨g, 0, none⟩) (ws ++ [f]).length (ints (ws ++ [f])) ∧ B ≤ g ∧ g < W.heap.size ∧ (ws ++ [f]).length ≤ c ∧ ∃ cur e fr, W.heap[g]? = some (.cells cur e fr) := by
  have hlen : (ws ++ [f]).length = la + 1 := by rw [List.length_append, hl]; rfl
  have e1 : ws.map (fun z => Value.int .i64 z) ++ [.int .i64 f] = (ws ++ [f]).map (fun z => Value.int .i64 z) := by rw [List.map_append]; rfl
  rw [e1] at h
  obtain ⟨a', cap', e2, hc, hr, -⟩ := Reads.of_row (f := ints (ws ++ [f])) h (fun i hi => ints_map i (by rw [hlen]; exact hi))
  injection e2 with e3 e4 e5
  subst e3 e5
  rw [Nat.mul_one] at hr
  rw [hlen]
  rcases h.2 with ⟨e0, -⟩ | ⟨g', cap', cur, e0, hb, hg, hn, hcc, hs, -⟩
  · cases e0
  · cases e0
    exact ⟨hr, hb, (Array.getElem?_eq_some_iff.1 hg).1, hc, _, _, _, hg⟩

/-- A round that leaves: a way out, in the result's boxes. -/
def SchX (x : HT) (a : List Int × List Int) (s : Sr (List Int)) (bm : Nat) (w : World) (ds : List Deferred) (c : Code) (pre : List Int) (W : World) : Prop :=
  c = .ret ∧ ∃ ad cp ws, (pre.foldl (srC (nxH x) a) s).stp = some ws ∧ Blk W (w.heap.size + 1) #[.map (some bm)] ∧ Blk W (w.heap.size + 1 + 1) #[.slice (some ad) ws.length cp] ∧ Reads W (some ad) ws.length (ints ws) ∧
    (∃ cur e fr, W.heap[ad.block]? = some (.cells cur e fr)) ∧ Below w.heap.size w W ∧ Marks ds W
theorem SchX.put {x : HT} {a : List Int × List Int} {s : Sr (List Int)} {bm : Nat} {w : World} {ds : List Deferred} {c : Code} {pre : List Int} {W : World} {k : Nat} {o : Obj} {BB : Nat} (h : SchX x a s bm w ds c pre W) (hB : w.heap.size + 1 + 1 < BB) (hd : ∀ D, (∃ d ∈ ds, d.target = .collected D) → D < BB) (hk : BB ≤ k) (ho : ∃ o0, W.heap[k]? = some o0 ∧ o0.isCells = false) : SchX x a s bm w ds c pre (W.putObj k o) := by
  obtain ⟨hc, ad, cp, ws, h1, h2, h3, h4, ⟨cur, e, fr, h5⟩, h6, h7⟩ := h
  have hne : ∀ b, b ≠ k → (W.putObj k o).heap[b]? = W.heap[b]? := fun b hb => World.putObj_heap_other hb
  have had : ad.block ≠ k := fun e2 => by
    obtain ⟨o0, ho1, ho2⟩ := ho
    rw [← e2, h5] at ho1
    cases ho1
    cases ho2
  have hag : Below k W (W.putObj k o) := ⟨rfl, rfl, rfl, by simp, fun j hj => hne j (by omega)⟩
  refine ⟨hc, ad, cp, ws, h1, h2.same (hne _ (by omega)), h3.same (hne _ (by omega)), reads_same h4 (by simp) (fun q hq => by cases hq; exact hne _ had), ⟨cur, e, fr, (hne _ had).trans h5⟩, h6.trans (hag.mono (by omega)), h7.same (fun D hD => hne D (by have := hd D hD; omega))⟩

/-- A round's end by a way out. -/
theorem SchJ.leave {x : HT} {l : List (List Int × List Int)} {i bm b4 b5 B b6 BB : Nat} {a : List Int} {w : World} {ds : List Deferred} {g off n cap : Nat} {dw : List Int → Option Addr × Nat} {M : Nat → Prop} {W Wa : World} {s : Sr (List Int)} {aa : List Int × List Int} {pre ws : List Int} {g7 c7 ln : Nat}
    (h : SchJ x l i w.heap.size bm b4 b5 B b6 BB a w ds g off n cap dw M W) (hu : Upd M M Wa W) (hs : (pre.foldl (srC (nxH x) aa) s).stp = some ws) (hln : ws.length = ln) (hr : Reads W (some ⟨g7, 0, none⟩) ws.length (ints ws)) (hg : BB ≤ g7) (hc : ∃ cur e fr, W.heap[g7]? = some (.cells cur e fr)) :
    SchX x aa s bm w ds .ret pre ((W.setCell ⟨w.heap.size + 1, 0, none⟩ (.map (some bm))).setCell ⟨w.heap.size + 1 + 1, 0, none⟩ (.slice (some ⟨g7, 0, none⟩) ln c7)) ∧
    Upd M M Wa ((W.setCell ⟨w.heap.size + 1, 0, none⟩ (.map (some bm))).setCell ⟨w.heap.size + 1 + 1, 0, none⟩ (.slice (some ⟨g7, 0, none⟩) ln c7)) := by
  have h2 := h.lo2
  have hz : ((W.setCell ⟨w.heap.size + 1, 0, none⟩ (.map (some bm))).setCell ⟨w.heap.size + 1 + 1, 0, none⟩ (.slice (some ⟨g7, 0, none⟩) ln c7)).heap.size = W.heap.size := by simp [World.setCell]
  have hsame : ∀ k, k ≠ w.heap.size + 1 → k ≠ w.heap.size + 1 + 1 → ((W.setCell ⟨w.heap.size + 1, 0, none⟩ (.map (some bm))).setCell ⟨w.heap.size + 1 + 1, 0, none⟩ (.slice (some ⟨g7, 0, none⟩) ln c7)).heap[k]? = W.heap[k]? := fun k h1 h2 =>
    (Below.heap_setCell _ _ _ _ (by dsimp only; omega)).trans (Below.heap_setCell _ _ _ _ (by dsimp only; omega))
  have hu2 := hu.trans ((Upd.setCell (fun k hk => (h.fit k hk).1) ⟨w.heap.size + 1, 0, none⟩ (.map (some bm)) h.m2).trans (Upd.setCell (fun k hk => by
    have := (h.fit k hk).1
    simpa [World.setCell] using this) ⟨w.heap.size + 1 + 1, 0, none⟩ (.slice (some ⟨g7, 0, none⟩) ln c7) h.m3))
  subst hln
  refine ⟨⟨rfl, ⟨g7, 0, none⟩, c7, ws, hs, ?_, ?_, ?_, ?_, ?_, ?_⟩, hu2⟩
  · have := (h.k2.set 0 (.map (some bm))).other (p := ⟨w.heap.size + 1 + 1, 0, none⟩) (by dsimp only; omega) (.slice (some ⟨g7, 0, none⟩) ws.length c7)
    exact this
  · have := (h.k3.other (p := ⟨w.heap.size + 1, 0, none⟩) (by dsimp only; omega) (.map (some bm))).set 0 (.slice (some ⟨g7, 0, none⟩) ws.length c7)
    exact this
  · exact reads_same hr (by omega) (fun q hq => by cases hq; exact hsame _ (by dsimp only; omega) (by dsimp only; omega))
  · obtain ⟨cur, e, fr, hc⟩ := hc
    exact ⟨cur, e, fr, (hsame _ (by dsimp only; omega) (by dsimp only; omega)).trans hc⟩
  · exact (h.bel.setCell (p := ⟨w.heap.size + 1, 0, none⟩) (by dsimp only; omega) _).setCell (p := ⟨w.heap.size + 1 + 1, 0, none⟩) (by dsimp only; omega) _
  · exact h.mks.same (fun D hD => by
      have hn := (h.low D (.inr (.inr (.inr hD)))).2
      exact hsame D (fun e => hn (e ▸ h.m2)) (fun e => hn (e ▸ h.m3)))
end
end Go.Proofs.Ytfdlhhinomjakaa
