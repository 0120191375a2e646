/-
  Texts of this claim, in their build order: Lib4.
-/
import Derived.Test.YtfdlhhinomjakaaHel5

namespace Go.Proofs.Ytfdlhhinomjakaa
section
open Go.RowKit

/-- The facts of an element type, in one. -/
structure RowTy (P : Program) (t e : TypeId) (size bytes : Nat) (z : Value) : Prop where
  u : P.underlying t = some (.slice e)
  i : ∃ i, P.info? e = some i ∧ i.zero = some z ∧ i.size = size ∧ i.bytes = bytes
  zs : z.cells.size = size
  pos : 0 < size
  byt : 0 < bytes

section
variable {P : Program} {w : World}

theorem append_where (base : Nat) {t e : TypeId} (ty : TypeId) {z : Value} {size bytes : Nat} (rt : RowTy P t e size bytes z)
    (v : Value) (n : Nat) (xs : List Value) (hown : w.ownsRow base e size v n xs)
    (a : Addr) (m c : Nat) (news : List Value) (hl : news.length = m * size) (hnews : ∀ j u, news[j]? = some u → w.cell? (a.add j) = some u) (h1 : ∀ u ∈ news, u.oneCell' = true)
    (h63 : n + m ≤ maxLen) (hbytes : (n + m) * bytes ≤ 140737488355328) (hbase : base ≤ w.heap.size) :
    ∃ v' w', (Builtin.append_ #[t, t] ty #[v, .slice (some a) m c]).run P w = .ok v' w' ∧ w'.ownsRow base e size v' (n + m) (xs ++ news) ∧ w.grownBy w' v.ownBlock ∧
      (v' = .slice none 0 0 ↔ v = .slice none 0 0 ∧ m = 0) ∧ (v'.ownBlock = v.ownBlock ∨ v'.ownBlock = some w.heap.size) := by
  obtain ⟨i, hi, hz, hs, hb⟩ := rt.i
  obtain ⟨v', w', hr, r1, r2, r3⟩ := run_append_own (P := P) w base t ty e i z size bytes rt.u hi hz hs hb rt.zs rt.pos v n xs hown a m c news hl hnews h1 h63 hbytes hbase
  refine ⟨v', w', hr, r1, r2, r3, ?_⟩
  have hml : n + m ≤ 9223372036854775807 := by simp only [maxLen] at h63; omega
  subst hs
  subst hb
  rcases hown.2 with ⟨rfl, rfl⟩ | ⟨g, cap, cur, rfl, hbg, hg, hnc, hcm, hcs, htake⟩
  · by_cases hm : m = 0
    · left; rw [r3.2 ⟨rfl, hm⟩]
    · right
      have h := run_append_nil (P := P) w t ty e i z rt.u hi hz a m c news hl hnews (by omega) (by omega) (by have hb := hbytes; simp only [Nat.zero_add] at hb; omega)
      rw [h] at hr
      injection hr with h1 h2
      rw [← h1]; rfl
  · by_cases hroom : n + m ≤ cap
    · left
      have hfit : n * i.size + news.length ≤ cur.size := by rw [hl, hcs, ← Nat.add_mul]; exact Nat.mul_le_mul_right _ hroom
      have h := run_append_room (P := P) w t ty e i rt.u hi g n cap cur hg a m c news hl hnews h1 hroom hfit
      rw [h] at hr
      injection hr with h1 h2
      rw [← h1]; rfl
    · right
      have holds : ∀ j u, xs[j]? = some u → w.cell? ((⟨g, 0, none⟩ : Addr).add j) = some u := hown.cells (g := g) rfl
      have h := run_append_grow (P := P) w t ty e i z rt.u hi hz ⟨g, 0, none⟩ n cap xs hown.1 holds a m c news hl hnews (by omega) (by omega) (growslice_fits (by omega) hbytes)
      rw [h] at hr
      injection hr with h1 h2
      rw [← h1]; rfl

/-- append in a walk. -/
theorem wpList_app {ops : Array Oper} {rest : List Oper} {o : Oper} {b : Act} {Q : Exit → Act → World → Prop} (base : Nat) {t e : TypeId} {z : Value} {size bytes : Nat} (rt : RowTy P t e size bytes z)
    (hg : o.guard = none) (s x : Operand) (hop : o.op = Op.call { callee := Callee.builtin Builtin.append, args := #[s, x], argTypes := #[t, t] })
    (v : Value) (n : Nat) (xs : List Value) (hs : b.eval s = v) (hown : w.ownsRow base e size v n xs) (a : Addr) (m c : Nat) (news : List Value) (hx : b.eval x = .slice (some a) m c)
    (hl : news.length = m * size) (hnews : ∀ j u, news[j]? = some u → w.cell? (a.add j) = some u) (h1 : ∀ u ∈ news, u.oneCell' = true)
    (h63 : n + m ≤ maxLen) (hbytes : (n + m) * bytes ≤ 140737488355328) (hbase : base ≤ w.heap.size)
    (hK : ∀ v' w', w'.ownsRow base e size v' (n + m) (xs ++ news) → w.grownBy w' v.ownBlock → (v' = .slice none 0 0 ↔ v = .slice none 0 0 ∧ m = 0) → (v'.ownBlock = v.ownBlock ∨ v'.ownBlock = some w.heap.size) → wpList P ops Q rest (b.put o.dst v') w') :
    wpList P ops Q (o :: rest) b w := by
  refine wpList_plain hg fun K hK' => ?_
  obtain ⟨v', w', hr, r1, r2, r3, r4⟩ := append_where (P := P) base o.type rt v n xs hown a m c news hl hnews h1 h63 hbytes hbase
  unfold Oper.wp execOp
  simp only [hop, resolve, invoke, builtin, Sem.run_bind, Sem.run_pure, Result.andThen_ok, List.map_toArray, List.map_cons, List.map_nil, hs, hx, hr]
  exact hK' _ _ (hK v' w' r1 r2 r3 r4)

/-- append in a walk inside a fence. -/
theorem wpListIn_app {F : Fence} {d : Nat} {ops : Array Oper} {rest : List Oper} {o : Oper} {b : Act} {Q : Exit → Act → World → Prop} (base : Nat) {t e : TypeId} {z : Value} {size bytes : Nat} (rt : RowTy P t e size bytes z)
    (hg : o.guard = none) (s x : Operand) (hop : o.op = Op.call { callee := Callee.builtin Builtin.append, args := #[s, x], argTypes := #[t, t] })
    (v : Value) (n : Nat) (xs : List Value) (hs : b.eval s = v) (hown : w.ownsRow base e size v n xs) (a : Addr) (m c : Nat) (news : List Value) (hx : b.eval x = .slice (some a) m c)
    (hl : news.length = m * size) (hnews : ∀ j u, news[j]? = some u → w.cell? (a.add j) = some u) (h1 : ∀ u ∈ news, u.oneCell' = true)
    (h63 : n + m ≤ maxLen) (hbytes : (n + m) * bytes ≤ 140737488355328) (hbase : base ≤ w.heap.size)
    (hK : ∀ v' w', w'.ownsRow base e size v' (n + m) (xs ++ news) → w.grownBy w' v.ownBlock → (v' = .slice none 0 0 ↔ v = .slice none 0 0 ∧ m = 0) → (v'.ownBlock = v.ownBlock ∨ v'.ownBlock = some w.heap.size) → wpListIn F d P ops Q rest (b.put o.dst v') w') :
    wpListIn F d P ops Q (o :: rest) b w := by
  refine wpListIn_plain hg fun K hK' => ?_
  obtain ⟨v', w', hr, r1, r2, r3, r4⟩ := append_where (P := P) base o.type rt v n xs hown a m c news hl hnews h1 h63 hbytes hbase
  unfold Oper.wpIn
  refine ⟨?_, ?_⟩
  · simp [Oper.about, hop, resolve, Target.leads, Sem.run_pure]
  · rw [Oper.semAt_plain F _ _ (by rw [hop]; intro c hc'; cases hc')]
    simp [execOp, hop, resolve, invoke, builtin, hs, hx, hr, Result.andThen]
    exact hK' _ _ (hK v' w' r1 r2 r3 r4)
end

/-- A box whose slice is appended to, behind the store: what the loop's invariant wants. M: the blocks that may be written. -/
theorem upd_appended {W w1 : World} {n₀ B : Nat} {e : TypeId} {size : Nat} {v v' : Value} {m : Nat} {ys : List Value} {tmp : Obj} {M : Nat → Prop}
    (hM : ∀ k, M k → k < W.heap.size) (hMB : M B) (hMv : ∀ k, v.ownBlock = some k → M k)
    (hown' : w1.ownsRow n₀ e size v' m ys) (hgrow : (W.alloc tmp).grownBy w1 v.ownBlock) (hwhere : v'.ownBlock = v.ownBlock ∨ v'.ownBlock = some (W.heap.size + 1)) :
    Upd M (fun k => M k ∨ v'.ownBlock = some k) W (w1.setCell ⟨B, 0, none⟩ v') := by
  have hsz := hgrow.size
  simp only [World.size_alloc] at hsz
  have hss : (w1.setCell ⟨B, 0, none⟩ v').heap.size = w1.heap.size := by simp [World.setCell]
  refine ⟨hgrow.os, hgrow.tape, hgrow.output, by omega, fun k hk hm => ?_, fun k hk => ?_, fun k hk => ?_⟩
  · rw [Below.heap_setCell _ _ _ _ (show k ≠ B from fun e => hm (by rw [e]; exact hMB)), hgrow.block k (by simp; omega) (fun e => hm (hMv k e.symm)), Below.heap_alloc _ _ _ hk]
  · rcases hk with hk | hk
    · exact .inl hk
    · rcases hwhere with h | h
      · exact .inl (hMv k (h ▸ hk))
      · rw [h] at hk; cases hk; exact .inr (Nat.le_succ _)
  · rw [hss]
    rcases hk with hk | hk
    · have := hM k hk; omega
    · exact (hown'.lt k hk).2

/-- What an owned row of whole numbers reads as. -/
theorem Reads.of_owns {W : World} {n₀ : Nat} {e : TypeId} {v : Value} {zs : List Int} (h : W.ownsRow n₀ e 1 v zs.length (zs.map fun z => Value.int .i64 z)) :
    ∃ a cap, v = .slice a zs.length cap ∧ Reads W a zs.length (ints zs) := by
  rcases h.2 with ⟨rfl, h0⟩ | ⟨g, cap, cur, rfl, hb, hg, hn, hc, hs, ht⟩
  · exact ⟨none, 0, by rw [h0], .inl h0⟩
  · refine ⟨_, cap, rfl, .inr ⟨g, 0, rfl, (Array.getElem?_eq_some_iff.1 hg).1, fun i hi => ?_⟩⟩
    have hcell := World.ownsRow.cellAt (w := W) (base := n₀) (e := e) (size := 1) (g := g) (cap := cap) h i (by omega)
    rw [Nat.zero_add, hcell]
    simp [ints, gi, hi]
end
end Go.Proofs.Ytfdlhhinomjakaa
