/-
  Texts of this claim, in their build order: Lib3 A7 Lib4 A8 Lib5.
-/
import Derived.Test.YtjfedpblkejmkaaGreatEve1
import Derived.RangeFuncNested
import Derived.RangeFuncBound
import Derived.RangeFuncCalls
import Derived.RangeFuncLeaves
import Derived.RangeFuncBox
import Derived.OwnWalkIn
import Derived.TacticsInMore
import Derived.LoopNIn
import Derived.LoopIn
import Derived.OrdersIn
import Derived.Maps.AppendAt

/-
  A range over a function, for iterators that keep variables of their own in memory: the blocks that the loop's body may write are named by a set.
-/
namespace Go.Proofs.YtjfedpblkejmkaaGreat
open Go.RowKit

/-- From W1 to W2 no block below B, and none of the set M, has turned. -/
structure Agree (B : Nat) (M : Nat → Prop) (W1 W2 : World) : Prop where
  os : W2.os = W1.os
  tape : W2.tape = W1.tape
  output : W2.output = W1.output
  size : W1.heap.size ≤ W2.heap.size
  low : ∀ k, k < B → W2.heap[k]? = W1.heap[k]?
  same : ∀ k, k < W1.heap.size → M k → W2.heap[k]? = W1.heap[k]?

theorem Agree.refl (B : Nat) (M : Nat → Prop) (W : World) : Agree B M W W := ⟨rfl, rfl, rfl, Nat.le_refl _, fun _ _ => rfl, fun _ _ _ => rfl⟩
theorem Agree.trans {B : Nat} {M : Nat → Prop} {a b c : World} (h : Agree B M a b) (k : Agree B M b c) : Agree B M a c :=
  ⟨k.os.trans h.os, k.tape.trans h.tape, k.output.trans h.output, Nat.le_trans h.size k.size, fun i hi => (k.low i hi).trans (h.low i hi), fun i hi hm => (k.same i (Nat.lt_of_lt_of_le hi h.size) hm).trans (h.same i hi hm)⟩
theorem Agree.below {B : Nat} {M : Nat → Prop} {a b : World} (h : Agree B M a b) : Below B a b := ⟨h.os, h.tape, h.output, h.size, h.low⟩
theorem Agree.mono {B B' : Nat} {M M' : Nat → Prop} {a b : World} (h : Agree B M a b) (hB : B' ≤ B) (hM : ∀ k, M' k → M k) : Agree B' M' a b :=
  ⟨h.os, h.tape, h.output, h.size, fun k hk => h.low k (Nat.lt_of_lt_of_le hk hB), fun k hk hm => h.same k hk (hM k hm)⟩
theorem Agree.of_below {B : Nat} {M : Nat → Prop} {a b : World} (h : Below a.heap.size a b) (hB : B ≤ a.heap.size) : Agree B M a b :=
  ⟨h.os, h.tape, h.output, h.size, fun k hk => h.block k (Nat.lt_of_lt_of_le hk hB), fun k hk _ => h.block k hk⟩
theorem Agree.setCell {B : Nat} {M : Nat → Prop} (W : World) (p : Addr) (v : Value) (hB : B ≤ p.block) (hM : ¬ M p.block) : Agree B M W (W.setCell p v) :=
  ⟨rfl, rfl, rfl, by simp [World.setCell], fun k hk => Below.heap_setCell _ _ _ _ (by omega), fun k _ hm => Below.heap_setCell _ _ _ _ (fun e => hM (e ▸ hm))⟩
theorem Agree.putObj {B : Nat} {M : Nat → Prop} (W : World) (l : Nat) (o : Obj) (hB : B ≤ l) (hM : ¬ M l) : Agree B M W (W.putObj l o) :=
  ⟨rfl, rfl, rfl, by simp, fun k hk => World.putObj_heap_other (by omega), fun k _ hm => World.putObj_heap_other (fun e => hM (e ▸ hm))⟩

/-- From W1 to W2 only blocks of M have been written; M' is what may be written from here on: of M, or new. -/
structure Upd (M M' : Nat → Prop) (W1 W2 : World) : Prop where
  os : W2.os = W1.os
  tape : W2.tape = W1.tape
  output : W2.output = W1.output
  size : W1.heap.size ≤ W2.heap.size
  same : ∀ k, k < W1.heap.size → ¬ M k → W2.heap[k]? = W1.heap[k]?
  grow : ∀ k, M' k → M k ∨ W1.heap.size ≤ k
  fit : ∀ k, M' k → k < W2.heap.size

theorem Upd.refl {M : Nat → Prop} {W : World} (hM : ∀ k, M k → k < W.heap.size) : Upd M M W W := ⟨rfl, rfl, rfl, Nat.le_refl _, fun _ _ _ => rfl, fun _ h => .inl h, hM⟩
theorem Upd.trans {M1 M2 M3 : Nat → Prop} {a b c : World} (h : Upd M1 M2 a b) (k : Upd M2 M3 b c) : Upd M1 M3 a c :=
  ⟨k.os.trans h.os, k.tape.trans h.tape, k.output.trans h.output, Nat.le_trans h.size k.size,
    fun i hi hm => (k.same i (Nat.lt_of_lt_of_le hi h.size) (fun h2 => (h.grow i h2).elim hm (fun h3 => by omega))).trans (h.same i hi hm),
    fun i hi => (k.grow i hi).elim (fun h2 => h.grow i h2) (fun h2 => .inr (Nat.le_trans h.size h2)), k.fit⟩
theorem Upd.alloc {M : Nat → Prop} {W : World} (hM : ∀ k, M k → k < W.heap.size) (o : Obj) : Upd M (fun k => M k ∨ k = W.heap.size) W (W.alloc o) :=
  ⟨rfl, rfl, rfl, by simp, fun k hk _ => Below.heap_alloc _ _ _ hk, fun k hk => hk.elim .inl (fun h => .inr (by omega)), fun k hk => by
    have : k < W.heap.size + 1 := hk.elim (fun h => by have := hM k h; omega) (fun h => by omega)
    simpa using this⟩
theorem Upd.setCell {M : Nat → Prop} {W : World} (hM : ∀ k, M k → k < W.heap.size) (p : Addr) (v : Value) (hp : M p.block) : Upd M M W (W.setCell p v) :=
  ⟨rfl, rfl, rfl, by simp [World.setCell], fun k _ hm => Below.heap_setCell _ _ _ _ (fun e => hm (e ▸ hp)), fun _ h => .inl h, fun k hk => by simpa [World.setCell] using hM k hk⟩
theorem Upd.of_below {M : Nat → Prop} {a b : World} (hM : ∀ k, M k → k < a.heap.size) (h : Below a.heap.size a b) : Upd M M a b :=
  ⟨h.os, h.tape, h.output, h.size, fun k hk _ => h.block k hk, fun _ h => .inl h, fun k hk => Nat.lt_of_lt_of_le (hM k hk) h.size⟩
theorem Upd.below {M M' : Nat → Prop} {a b : World} {B : Nat} (h : Upd M M' a b) (hB : B ≤ a.heap.size) (hM : ∀ k, M k → B ≤ k) : Below B a b :=
  ⟨h.os, h.tape, h.output, h.size, fun k hk => h.same k (Nat.lt_of_lt_of_le hk hB) (fun hm => by have := hM k hm; omega)⟩
theorem Upd.less {M M' M'' : Nat → Prop} {a b : World} (h : Upd M M' a b) (hl : ∀ k, M'' k → M' k) : Upd M M'' a b :=
  ⟨h.os, h.tape, h.output, h.size, h.same, fun k hk => h.grow k (hl k hk), fun k hk => h.fit k (hl k hk)⟩

/-- How the body of a round may be left. -/
def postM {α : Type} (I : List α → (Nat → Prop) → World → Prop) (Ix : Code → List α → World → Prop) (xs : List α) (M : Nat → Prop) (W : World) : Exit → Act → World → Prop
  | .normal, _, W' => ∃ M', I xs M' W' ∧ Upd M M' W W'
  | .ret, _, W' => ∃ M', Ix .ret xs W' ∧ Upd M M' W W'
  | .exit id, _, W' => ∃ M', Ix (.exit id) xs W' ∧ Upd M M' W W'
  | .goto t, _, W' => ∃ M', Ix (.goto t) xs W' ∧ Upd M M' W W'
  | .panic _, _, _ => False
  | .outgrown, _, _ => False

theorem putObj_size' (W : World) (l : Nat) (o : Obj) : (W.putObj l o).heap.size = W.heap.size := World.putObj_size

variable {n : Nat} {P : Program}

end Go.Proofs.YtjfedpblkejmkaaGreat

/-
  The iterator over the steps of a run.
-/
namespace Go.Proofs.YtjfedpblkejmkaaGreat
open Go.RowKit
attribute [local go_sem] Oper.semAt_some

theorem Blk.upd {W W' : World} {M M' : Nat → Prop} {b : Nat} {cs : Array Value} (h : Blk W b cs) (hu : Upd M M' W W') (hb : ¬ M b) : Blk W' b cs := by
  have hh := hu.same b h.1 hb
  refine ⟨Nat.lt_of_lt_of_le h.1 hu.size, fun o => ?_, fun o => ?_⟩
  · rw [← h.2.1 o]; exact World.cell?_of_block (w := W) (a := ⟨b, o, none⟩) hh
  · rw [← h.2.2 o]; exact World.frozen?_of_block (w := W) (a := ⟨b, o, none⟩) hh
theorem Reads.upd {W W' : World} {M M' : Nat → Prop} {a : Option Addr} {m : Nat} {f : Nat → Value} (h : Reads W a m f) (hu : Upd M M' W W') (hb : ∀ b off, a = some ⟨b, off, none⟩ → ¬ M b) : Reads W' a m f := by
  rcases h with h | ⟨b, off, ha, hlt, hc⟩
  · exact .inl h
  · exact .inr ⟨b, off, ha, Nat.lt_of_lt_of_le hlt hu.size, fun i hi => by rw [← hc i hi]; exact World.cell?_of_block (w := W) (a := ⟨b, off + i, none⟩) (hu.same b hlt (hb b off ha))⟩

theorem Reads.other {W : World} {a : Option Addr} {m : Nat} {f : Nat → Value} (h : Reads W a m f) (p : Addr) (v : Value) (hp : ∀ b off, a = some ⟨b, off, none⟩ → b ≠ p.block) : Reads (W.setCell p v) a m f := by
  rcases h with h | ⟨b, off, ha, hlt, hc⟩
  · exact .inl h
  · exact .inr ⟨b, off, ha, by simpa [World.setCell] using hlt, fun i hi => by rw [World.cell?_setCell_other _ _ _ _ (by intro e; exact hp b off ha (by rw [e]))]; exact hc i hi⟩

end Go.Proofs.YtjfedpblkejmkaaGreat

/-
  Append onto a slice of the call's own, with where the new row lies; a variable's box that holds such a slice, in a loop over an iterator.
-/
namespace Go.Proofs.YtjfedpblkejmkaaGreat
open Go.RowKit

/-- The facts of an element type, in one. -/
structure RowTy (P : Program) (t e : TypeId) (size bytes : Nat) (z : Value) : Prop where
  u : P.underlying t = some (.slice e)
  i : ∃ i, P.info? e = some i ∧ i.zero = some z ∧ i.size = size ∧ i.bytes = bytes
  zs : z.cells.size = size
  pos : 0 < size
  byt : 0 < bytes

section
variable {P : Program} {w : World}

theorem append_where (base : Nat) {t e : TypeId} (ty : TypeId) {z : Value} {size bytes : Nat} (rt : RowTy P t e size bytes z)
    (v : Value) (n : Nat) (xs : List Value) (hown : w.ownsRow base e size v n xs)
    (a : Addr) (m c : Nat) (news : List Value) (hl : news.length = m * size) (hnews : ∀ j u, news[j]? = some u → w.cell? (a.add j) = some u) (h1 : ∀ u ∈ news, u.oneCell' = true)
    (h63 : n + m ≤ maxLen) (hbytes : (n + m) * bytes ≤ 140737488355328) (hbase : base ≤ w.heap.size) :
    ∃ v' w', (Builtin.append_ #[t, t] ty #[v, .slice (some a) m c]).run P w = .ok v' w' ∧ w'.ownsRow base e size v' (n + m) (xs ++ news) ∧ w.grownBy w' v.ownBlock ∧
      (v' = .slice none 0 0 ↔ v = .slice none 0 0 ∧ m = 0) ∧ (v'.ownBlock = v.ownBlock ∨ v'.ownBlock = some w.heap.size) := by
  obtain ⟨i, hi, hz, hs, hb⟩ := rt.i
  obtain ⟨v', w', hr, r1, r2, r3⟩ := run_append_own (P := P) w base t ty e i z size bytes rt.u hi hz hs hb rt.zs rt.pos v n xs hown a m c news hl hnews h1 h63 hbytes hbase
  refine ⟨v', w', hr, r1, r2, r3, ?_⟩
  have hml : n + m ≤ 9223372036854775807 := by simp only [maxLen] at h63; omega
  subst hs
  subst hb
  rcases hown.2 with ⟨rfl, rfl⟩ | ⟨g, cap, cur, rfl, hbg, hg, hnc, hcm, hcs, htake⟩
  · by_cases hm : m = 0
    · left; rw [r3.2 ⟨rfl, hm⟩]
    · right
      have h := run_append_nil (P := P) w t ty e i z rt.u hi hz a m c news hl hnews (by omega) (by omega) (by have hb := hbytes; simp only [Nat.zero_add] at hb; omega)
      rw [h] at hr
      injection hr with h1 h2
      rw [← h1]; rfl
  · by_cases hroom : n + m ≤ cap
    · left
      have hfit : n * i.size + news.length ≤ cur.size := by rw [hl, hcs, ← Nat.add_mul]; exact Nat.mul_le_mul_right _ hroom
      have h := run_append_room (P := P) w t ty e i rt.u hi g n cap cur hg a m c news hl hnews h1 hroom hfit
      rw [h] at hr
      injection hr with h1 h2
      rw [← h1]; rfl
    · right
      have holds : ∀ j u, xs[j]? = some u → w.cell? ((⟨g, 0, none⟩ : Addr).add j) = some u := hown.cells (g := g) rfl
      have h := run_append_grow (P := P) w t ty e i z rt.u hi hz ⟨g, 0, none⟩ n cap xs hown.1 holds a m c news hl hnews (by omega) (by omega) (growslice_fits (by omega) hbytes)
      rw [h] at hr
      injection hr with h1 h2
      rw [← h1]; rfl

/-- append in a walk. -/
theorem wpList_app {ops : Array Oper} {rest : List Oper} {o : Oper} {b : Act} {Q : Exit → Act → World → Prop} (base : Nat) {t e : TypeId} {z : Value} {size bytes : Nat} (rt : RowTy P t e size bytes z)
    (hg : o.guard = none) (s x : Operand) (hop : o.op = Op.call { callee := Callee.builtin Builtin.append, args := #[s, x], argTypes := #[t, t] })
    (v : Value) (n : Nat) (xs : List Value) (hs : b.eval s = v) (hown : w.ownsRow base e size v n xs) (a : Addr) (m c : Nat) (news : List Value) (hx : b.eval x = .slice (some a) m c)
    (hl : news.length = m * size) (hnews : ∀ j u, news[j]? = some u → w.cell? (a.add j) = some u) (h1 : ∀ u ∈ news, u.oneCell' = true)
    (h63 : n + m ≤ maxLen) (hbytes : (n + m) * bytes ≤ 140737488355328) (hbase : base ≤ w.heap.size)
    (hK : ∀ v' w', w'.ownsRow base e size v' (n + m) (xs ++ news) → w.grownBy w' v.ownBlock → (v' = .slice none 0 0 ↔ v = .slice none 0 0 ∧ m = 0) → (v'.ownBlock = v.ownBlock ∨ v'.ownBlock = some w.heap.size) → wpList P ops Q rest (b.put o.dst v') w') :
    wpList P ops Q (o :: rest) b w := by
  refine wpList_plain hg fun K hK' => ?_
  obtain ⟨v', w', hr, r1, r2, r3, r4⟩ := append_where (P := P) base o.type rt v n xs hown a m c news hl hnews h1 h63 hbytes hbase
  unfold Oper.wp execOp
  simp only [hop, resolve, invoke, builtin, Sem.run_bind, Sem.run_pure, Result.andThen_ok, List.map_toArray, List.map_cons, List.map_nil, hs, hx, hr]
  exact hK' _ _ (hK v' w' r1 r2 r3 r4)

/-- append in a walk inside a fence. -/
theorem wpListIn_app {F : Fence} {d : Nat} {ops : Array Oper} {rest : List Oper} {o : Oper} {b : Act} {Q : Exit → Act → World → Prop} (base : Nat) {t e : TypeId} {z : Value} {size bytes : Nat} (rt : RowTy P t e size bytes z)
    (hg : o.guard = none) (s x : Operand) (hop : o.op = Op.call { callee := Callee.builtin Builtin.append, args := #[s, x], argTypes := #[t, t] })
    (v : Value) (n : Nat) (xs : List Value) (hs : b.eval s = v) (hown : w.ownsRow base e size v n xs) (a : Addr) (m c : Nat) (news : List Value) (hx : b.eval x = .slice (some a) m c)
    (hl : news.length = m * size) (hnews : ∀ j u, news[j]? = some u → w.cell? (a.add j) = some u) (h1 : ∀ u ∈ news, u.oneCell' = true)
    (h63 : n + m ≤ maxLen) (hbytes : (n + m) * bytes ≤ 140737488355328) (hbase : base ≤ w.heap.size)
    (hK : ∀ v' w', w'.ownsRow base e size v' (n + m) (xs ++ news) → w.grownBy w' v.ownBlock → (v' = .slice none 0 0 ↔ v = .slice none 0 0 ∧ m = 0) → (v'.ownBlock = v.ownBlock ∨ v'.ownBlock = some w.heap.size) → wpListIn F d P ops Q rest (b.put o.dst v') w') :
    wpListIn F d P ops Q (o :: rest) b w := by
  refine wpListIn_plain hg fun K hK' => ?_
  obtain ⟨v', w', hr, r1, r2, r3, r4⟩ := append_where (P := P) base o.type rt v n xs hown a m c news hl hnews h1 h63 hbytes hbase
  unfold Oper.wpIn
  refine ⟨?_, ?_⟩
  · simp [Oper.about, hop, resolve, Target.leads, Sem.run_pure]
  · rw [Oper.semAt_plain F _ _ (by rw [hop]; intro c hc'; cases hc')]
    simp [execOp, hop, resolve, invoke, builtin, hs, hx, hr, Result.andThen]
    exact hK' _ _ (hK v' w' r1 r2 r3 r4)
end

/-- A box whose slice is appended to, behind the store: what the loop's invariant wants. M: the blocks that may be written. -/
theorem upd_appended {W w1 : World} {n₀ B : Nat} {e : TypeId} {size : Nat} {v v' : Value} {m : Nat} {ys : List Value} {tmp : Obj} {M : Nat → Prop}
    (hM : ∀ k, M k → k < W.heap.size) (hMB : M B) (hMv : ∀ k, v.ownBlock = some k → M k)
    (hown' : w1.ownsRow n₀ e size v' m ys) (hgrow : (W.alloc tmp).grownBy w1 v.ownBlock) (hwhere : v'.ownBlock = v.ownBlock ∨ v'.ownBlock = some (W.heap.size + 1)) :
    Upd M (fun k => M k ∨ v'.ownBlock = some k) W (w1.setCell ⟨B, 0, none⟩ v') := by
  have hsz := hgrow.size
  simp only [World.size_alloc] at hsz
  have hss : (w1.setCell ⟨B, 0, none⟩ v').heap.size = w1.heap.size := by simp [World.setCell]
  refine ⟨hgrow.os, hgrow.tape, hgrow.output, by omega, fun k hk hm => ?_, fun k hk => ?_, fun k hk => ?_⟩
  · rw [Below.heap_setCell _ _ _ _ (show k ≠ B from fun e => hm (by rw [e]; exact hMB)), hgrow.block k (by simp; omega) (fun e => hm (hMv k e.symm)), Below.heap_alloc _ _ _ hk]
  · rcases hk with hk | hk
    · exact .inl hk
    · rcases hwhere with h | h
      · exact .inl (hMv k (h ▸ hk))
      · rw [h] at hk; cases hk; exact .inr (Nat.le_succ _)
  · rw [hss]
    rcases hk with hk | hk
    · have := hM k hk; omega
    · exact (hown'.lt k hk).2

/-- What an owned row of whole numbers reads as. -/
theorem Reads.of_owns {W : World} {n₀ : Nat} {e : TypeId} {v : Value} {zs : List Int} (h : W.ownsRow n₀ e 1 v zs.length (zs.map fun z => Value.int .i64 z)) :
    ∃ a cap, v = .slice a zs.length cap ∧ Reads W a zs.length (ints zs) := by
  rcases h.2 with ⟨rfl, h0⟩ | ⟨g, cap, cur, rfl, hb, hg, hn, hc, hs, ht⟩
  · exact ⟨none, 0, by rw [h0], .inl h0⟩
  · refine ⟨_, cap, rfl, .inr ⟨g, 0, rfl, (Array.getElem?_eq_some_iff.1 hg).1, fun i hi => ?_⟩⟩
    have hcell := World.ownsRow.cellAt (w := W) (base := n₀) (e := e) (size := 1) (g := g) (cap := cap) h i (by omega)
    rw [Nat.zero_add, hcell]
    simp [ints, gi, hi]

end Go.Proofs.YtjfedpblkejmkaaGreat

/-
  RunOf of package hybrid.
-/
namespace Go.Proofs.YtjfedpblkejmkaaGreat
open Go.RowKit
theorem rtInt : RowTy Tryz.prog 47 3 1 8 (.int .i64 0) := by
  obtain ⟨i, h1, h2, h3, h4⟩ := info_parts (show (Tryz.prog.info? 3).map (fun i => (i.zero, i.size, i.bytes)) = some (some (.int .i64 0), 1, 8) by kernel_rfl)
  exact ⟨by kernel_rfl, ⟨i, h1, h2, h3, h4⟩, rfl, by omega, by omega⟩

/-- What the body of RunOf's loop has made: out's box, and the row that it owns. -/
def RunI (n0 bo : Nat) (w : World) (pre : List (List Int × List Int)) (M : Nat → Prop) (W : World) : Prop :=
  ∃ v, Boxed W bo 47 v ∧ W.ownsRow n0 3 1 v (pre.length + 1) ((0 :: pre.map fun s => gi s.2 0).map fun z => Value.int .i64 z) ∧ Below n0 w W ∧ (∀ k, v.ownBlock = some k → M k) ∧ M bo ∧ (∀ k, M k → k < W.heap.size ∧ n0 ≤ k)

theorem agree_blk {B : Nat} {M : Nat → Prop} {W1 W2 : World} (h : Agree B M W1 W2) {b : Nat} {o : Obj} (hM : M b) (hb : W1.heap[b]? = some o) : W2.heap[b]? = some o :=
  (h.same b (Array.getElem?_eq_some_iff.1 hb).1 hM).trans hb
theorem RunI.agree {B n0 bo : Nat} {w : World} {pre : List (List Int × List Int)} {M : Nat → Prop} {W1 W2 : World} (h : RunI n0 bo w pre M W1) (hag : Agree B M W1 W2) (hB : n0 ≤ B) : RunI n0 bo w pre M W2 := by
  obtain ⟨v, hv, hr, hb, hvm, hbm, hm⟩ := h
  refine ⟨v, agree_blk hag hbm hv, ⟨hr.1, ?_⟩, hb.trans (hag.below.mono hB), hvm, hbm, fun k hk => ⟨Nat.lt_of_lt_of_le (hm k hk).1 hag.size, (hm k hk).2⟩⟩
  rcases hr.2 with hn | ⟨g, cap, cur, rfl, hbg, hg, rest⟩
  · exact .inl hn
  · exact .inr ⟨g, cap, cur, rfl, hbg, agree_blk hag (hvm g rfl) hg, rest⟩

end Go.Proofs.YtjfedpblkejmkaaGreat

/-
  A region that draws its order, within a round of a loop over an iterator.
-/
namespace Go.Proofs.YtjfedpblkejmkaaGreat
open Go.RowKit

section
variable {P : Program} {ops : Array Oper}

theorem Oper.uponIn_of_upon {l n : Nat} {o : Oper} {a : Act} {K : Act → World → Prop} {Q : Exit → Act → World → Prop} : ∀ {r : Result Next}, o.upon P a K Q r → o.uponIn (Fence.wide.inRound l) n P a K Q r
  | .ok (.value _) _, h => h
  | .ok .skip _, h => h
  | .ok (.defer _) _, h => h
  | .ok (.enter f args) w, h => ⟨fun hd => by simp [Fence.wide, Fence.inRound] at hd, CallsIn.inRound l ((callsIn_wide (n := n - 1)).2 (show Calls P f args w _ from h))⟩
  | .ok (.row row args) w, h => ⟨fun hd => by simp [Fence.wide, Fence.inRound] at hd, fun c cs _ => by
      obtain ⟨v, w', hR, hs⟩ := h c cs
      exact ⟨v, w', hR, stepsIn_wide.2 hs⟩⟩
  | .halt (.panic _) _, h => h

theorem wpOpIn_of_wpOp {l n i : Nat} {Q : Exit → Act → World → Prop} {K : Act → World → Prop} {a : Act} {w : World} (hnd : ∀ (j : Nat) (o : Oper) c, ops[j]? = some o → o.op ≠ .defer c) (hno : ¬ LetsOut Q)
    (h : wpOp P ops Q i K a w) : wpOpIn (Fence.wide.inRound l) n P ops Q i K a w := by
  unfold wpOp at h
  unfold wpOpIn
  split
  · rename_i ho; simp only [ho] at h; exact h
  · rename_i o ho
    simp only [ho] at h
    split
    · rename_i hw
      simp only [hw, if_true] at h
      rcases h with h | ⟨-, h⟩
      · unfold Oper.wp at h
        refine ⟨fun _ _ => trivial, ?_⟩
        rw [Oper.semAt_plain _ _ _ (fun c => hnd i o c ho)]
        exact Oper.uponIn_of_upon h
      · exact absurd h hno
    · rename_i hw
      simp only [hw] at h
      exact ⟨fun _ _ => trivial, h⟩

theorem wpAnyIn_of_wpAny {l n : Nat} {md : Region.Mode} {Q : Exit → Act → World → Prop} (hnd : ∀ (j : Nat) (o : Oper) c, ops[j]? = some o → o.op ≠ .defer c) (hno : ¬ LetsOut Q) :
    ∀ (fuel : Nat) (listed : Array Bool) (a : Act) (w : World), wpAny P md ops Q fuel listed a w → wpAnyIn (Fence.wide.inRound l) n P md ops Q fuel listed a w
  | 0, _, _, _, h => h
  | fuel + 1, _, _, _, h => ⟨h.1, fun i hi => wpOpIn_of_wpOp hnd hno (wpOp_mono (fun a' w' h' => wpAnyIn_of_wpAny hnd hno fuel _ a' w' h') (h.2 i hi))⟩

/-- No operation is a defer statement. -/
def noDeferB (ops : List Oper) : Bool := ops.all fun o => match o.op with | .defer _ => false | _ => true
theorem noDefer_spec {l : List Oper} (h : noDeferB l = true) : ∀ (j : Nat) (o : Oper) c, l.toArray[j]? = some o → o.op ≠ .defer c := by
  intro j o c hj he
  have hm : o ∈ l := by
    have := List.mem_of_getElem? (show l[j]? = some o by simpa using hj)
    exact this
  have := List.all_eq_true.1 h o hm
  rw [he] at this
  cases this

theorem wpAny_quiet_tail {Q : Exit → Act → World → Prop} {a : Act} {w : World} {l : List Oper} (n : Nat) (C : World → Prop) (hB : Region.lexTailB .any l.toArray n = true)
    (hC : C { w with drawn := w.drawn + 1 })
    (h : wpQuiet P l.toArray C (fun a' => ∀ w', C w' → wpList P l.toArray Q (l.drop n) a' w') (l.take n) a) : wpAny P .any l.toArray Q l.toArray.size (Array.replicate l.toArray.size false) a { w with drawn := w.drawn + 1 } := by
  simp only [Region.lexTailB, Bool.and_eq_true, decide_eq_true_eq] at hB
  obtain ⟨⟨⟨⟨hsel, hn⟩, hs⟩, hc⟩, hlex⟩ := hB
  have hn' : n < l.length := by simpa using hn
  have htl : (l.take n).length = n := by simp; omega
  have hdl : (l.drop n).length = l.toArray.size - n := by simp
  have inv0 : HeadInv .any l.toArray n (Array.replicate l.toArray.size false) :=
    ⟨by simp, fun j oj _ hl => (by rw [getD_replicate_false] at hl; cases hl), fun t _ ht => getD_in (by simpa using ht) (getD_replicate_false _ _)⟩
  have H := wpAnyQL_lex (md := .any) (g := l.toArray.size - n) hsel hs hc hn (l.take n) 0 _ a (fun j hj => by
    have hj' : j < n := by rw [htl] at hj; exact hj
    simp [hj']) (by simpa using htl) inv0 (by rw [htl]; exact hlex) h
  have := wpAny_of_qhead (C := C) (Q' := Q) (g := l.toArray.size - n) (fun listed a' w' hw' hL => by
    have := wpAny_of_seq (md := .any) (Q' := Q) (l.drop n) n listed a' w' (fun j => by simp [List.getElem?_drop]) (by rw [hdl]; exact hL.1) (hL.2 w' hw')
    rwa [hdl] at this) _ _ _ _ hC H
  rw [htl, show n + (l.toArray.size - n) = l.toArray.size by omega] at this
  exact this

/-- In a round: a region that draws its order, with a forced tail. -/
theorem wpIn_region_quiet_tail {id d r : Nat} {Q : Exit → Act → World → Prop} {a : Act} {w : World} {l : List Oper} (n : Nat) (C : World → Prop) (hm : P.follows .mixedOrders = true) (hB : Region.lexTailB .any l.toArray n = true)
    (hnd : noDeferB l = true) (hno : ¬ LetsOut Q) (hC : C { w with drawn := w.drawn + 1 })
    (h : wpQuiet P l.toArray C (fun a' => ∀ w', C w' → wpList P l.toArray Q (l.drop n) a' w') (l.take n) a) : (Code.region id l.toArray true).wpIn (Fence.wide.inRound r) d P Q a w :=
  wpIn_region_any hm (wpAnyIn_of_wpAny (noDefer_spec hnd) hno _ _ _ _ (wpAny_quiet_tail n C hB hC h))

/-- In a round: a region that draws its order, all of whose operations keep the class. -/
theorem wpIn_region_quiet_all {id d r : Nat} {Q : Exit → Act → World → Prop} {a : Act} {w : World} {l : List Oper} (C : World → Prop) (hm : P.follows .mixedOrders = true) (hB : Region.lexB .any l.toArray = true)
    (hnd : noDeferB l = true) (hno : ¬ LetsOut Q) (hC : C { w with drawn := w.drawn + 1 })
    (h : wpQuiet P l.toArray C (fun a' => ∀ w', C w' → Q .normal a' w') l a) : (Code.region id l.toArray true).wpIn (Fence.wide.inRound r) d P Q a w := by
  simp only [Region.lexB, Bool.and_eq_true] at hB
  refine wpIn_region_any hm (wpAnyIn_of_wpAny (noDefer_spec hnd) hno _ _ _ _ ?_)
  refine wpAny_of_quiet (C := C) (Q := fun a' => ∀ w', C w' → Q .normal a' w') (fun _ w' hw' h => h w' hw') _ _ _ _ hC ?_
  have := wpAnyQ_lex (C := C) (md := .any) hB.1 l 0 (Array.replicate l.toArray.size false) a (by simp) (by simpa using hB.2) h
  simpa using this
end

end Go.Proofs.YtjfedpblkejmkaaGreat

