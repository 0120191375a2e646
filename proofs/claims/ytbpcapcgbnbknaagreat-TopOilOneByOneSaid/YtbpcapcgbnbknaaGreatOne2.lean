/-
  Texts of this claim, in their build order: A7 Lib4 A8 Lib5 A9 A10 B1 B2.
-/
import Derived.Test.YtbpcapcgbnbknaaGreatOne1

namespace Go.Proofs.YtbpcapcgbnbknaaGreat
section
open Go.RowKit
attribute [local go_sem] Oper.semAt_some

theorem Blk.upd {W W' : World} {M M' : Nat → Prop} {b : Nat} {cs : Array Value} (h : Blk W b cs) (hu : Upd M M' W W') (hb : ¬ M b) : Blk W' b cs := by
  have hh := hu.same b h.1 hb
  refine ⟨Nat.lt_of_lt_of_le h.1 hu.size, fun o => ?_, fun o => ?_⟩
  · rw [← h.2.1 o]; exact World.cell?_of_block (w := W) (a := ⟨b, o, none⟩) hh
  · rw [← h.2.2 o]; exact World.frozen?_of_block (w := W) (a := ⟨b, o, none⟩) hh
theorem Reads.upd {W W' : World} {M M' : Nat → Prop} {a : Option Addr} {m : Nat} {f : Nat → Value} (h : Reads W a m f) (hu : Upd M M' W W') (hb : ∀ b off, a = some ⟨b, off, none⟩ → ¬ M b) : Reads W' a m f := by
  rcases h with h | ⟨b, off, ha, hlt, hc⟩
  · exact .inl h
  · exact .inr ⟨b, off, ha, Nat.lt_of_lt_of_le hlt hu.size, fun i hi => by rw [← hc i hi]; exact World.cell?_of_block (w := W) (a := ⟨b, off + i, none⟩) (hu.same b hlt (hb b off ha))⟩

theorem Reads.other {W : World} {a : Option Addr} {m : Nat} {f : Nat → Value} (h : Reads W a m f) (p : Addr) (v : Value) (hp : ∀ b off, a = some ⟨b, off, none⟩ → b ≠ p.block) : Reads (W.setCell p v) a m f := by
  rcases h with h | ⟨b, off, ha, hlt, hc⟩
  · exact .inl h
  · exact .inr ⟨b, off, ha, by simpa [World.setCell] using hlt, fun i hi => by rw [World.cell?_setCell_other _ _ _ _ (by intro e; exact hp b off ha (by rw [e]))]; exact hc i hi⟩

/-- Is a number within the bound? -/
def inB (x : HT) (n : Int) : Bool := decide (-x.b ≤ n) && decide (n ≤ x.b)
end
section
open Go.RowKit

/-- The facts of an element type, in one. -/
structure RowTy (P : Program) (t e : TypeId) (size bytes : Nat) (z : Value) : Prop where
  u : P.underlying t = some (.slice e)
  i : ∃ i, P.info? e = some i ∧ i.zero = some z ∧ i.size = size ∧ i.bytes = bytes
  zs : z.cells.size = size
  pos : 0 < size
  byt : 0 < bytes

section
variable {P : Program} {w : World}

theorem append_where (base : Nat) {t e : TypeId} (ty : TypeId) {z : Value} {size bytes : Nat} (rt : RowTy P t e size bytes z)
    (v : Value) (n : Nat) (xs : List Value) (hown : w.ownsRow base e size v n xs)
    (a : Addr) (m c : Nat) (news : List Value) (hl : news.length = m * size) (hnews : ∀ j u, news[j]? = some u → w.cell? (a.add j) = some u) (h1 : ∀ u ∈ news, u.oneCell' = true)
    (h63 : n + m ≤ maxLen) (hbytes : (n + m) * bytes ≤ 140737488355328) (hbase : base ≤ w.heap.size) :
    ∃ v' w', (Builtin.append_ #[t, t] ty #[v, .slice (some a) m c]).run P w = .ok v' w' ∧ w'.ownsRow base e size v' (n + m) (xs ++ news) ∧ w.grownBy w' v.ownBlock ∧
      (v' = .slice none 0 0 ↔ v = .slice none 0 0 ∧ m = 0) ∧ (v'.ownBlock = v.ownBlock ∨ v'.ownBlock = some w.heap.size) := by
  obtain ⟨i, hi, hz, hs, hb⟩ := rt.i
  obtain ⟨v', w', hr, r1, r2, r3⟩ := run_append_own (P := P) w base t ty e i z size bytes rt.u hi hz hs hb rt.zs rt.pos v n xs hown a m c news hl hnews h1 h63 hbytes hbase
  refine ⟨v', w', hr, r1, r2, r3, ?_⟩
  have hml : n + m ≤ 9223372036854775807 := by simp only [maxLen] at h63; omega
  subst hs
  subst hb
  rcases hown.2 with ⟨rfl, rfl⟩ | ⟨g, cap, cur, rfl, hbg, hg, hnc, hcm, hcs, htake⟩
  · by_cases hm : m = 0
    · left; rw [r3.2 ⟨rfl, hm⟩]
    · right
      have h := run_append_nil (P := P) w t ty e i z rt.u hi hz a m c news hl hnews (by omega) (by omega) (by have hb := hbytes; simp only [Nat.zero_add] at hb; omega)
      rw [h] at hr
      injection hr with h1 h2
      rw [← h1]; rfl
  · by_cases hroom : n + m ≤ cap
    · left
      have hfit : n * i.size + news.length ≤ cur.size := by rw [hl, hcs, ← Nat.add_mul]; exact Nat.mul_le_mul_right _ hroom
      have h := run_append_room (P := P) w t ty e i rt.u hi g n cap cur hg a m c news hl hnews h1 hroom hfit
      rw [h] at hr
      injection hr with h1 h2
      rw [← h1]; rfl
    · right
      have holds : ∀ j u, xs[j]? = some u → w.cell? ((⟨g, 0, none⟩ : Addr).add j) = some u := hown.cells (g := g) rfl
      have h := run_append_grow (P := P) w t ty e i z rt.u hi hz ⟨g, 0, none⟩ n cap xs hown.1 holds a m c news hl hnews (by omega) (by omega) (growslice_fits (by omega) hbytes)
      rw [h] at hr
      injection hr with h1 h2
      rw [← h1]; rfl

/-- append in a walk. -/
theorem wpList_app {ops : Array Oper} {rest : List Oper} {o : Oper} {b : Act} {Q : Exit → Act → World → Prop} (base : Nat) {t e : TypeId} {z : Value} {size bytes : Nat} (rt : RowTy P t e size bytes z)
    (hg : o.guard = none) (s x : Operand) (hop : o.op = Op.call { callee := Callee.builtin Builtin.append, args := #[s, x], argTypes := #[t, t] })
    (v : Value) (n : Nat) (xs : List Value) (hs : b.eval s = v) (hown : w.ownsRow base e size v n xs) (a : Addr) (m c : Nat) (news : List Value) (hx : b.eval x = .slice (some a) m c)
    (hl : news.length = m * size) (hnews : ∀ j u, news[j]? = some u → w.cell? (a.add j) = some u) (h1 : ∀ u ∈ news, u.oneCell' = true)
    (h63 : n + m ≤ maxLen) (hbytes : (n + m) * bytes ≤ 140737488355328) (hbase : base ≤ w.heap.size)
    (hK : ∀ v' w', w'.ownsRow base e size v' (n + m) (xs ++ news) → w.grownBy w' v.ownBlock → (v' = .slice none 0 0 ↔ v = .slice none 0 0 ∧ m = 0) → (v'.ownBlock = v.ownBlock ∨ v'.ownBlock = some w.heap.size) → wpList P ops Q rest (b.put o.dst v') w') :
    wpList P ops Q (o :: rest) b w := by
  refine wpList_plain hg fun K hK' => ?_
  obtain ⟨v', w', hr, r1, r2, r3, r4⟩ := append_where (P := P) base o.type rt v n xs hown a m c news hl hnews h1 h63 hbytes hbase
  unfold Oper.wp execOp
  simp only [hop, resolve, invoke, builtin, Sem.run_bind, Sem.run_pure, Result.andThen_ok, List.map_toArray, List.map_cons, List.map_nil, hs, hx, hr]
  exact hK' _ _ (hK v' w' r1 r2 r3 r4)

/-- append in a walk inside a fence. -/
theorem wpListIn_app {F : Fence} {d : Nat} {ops : Array Oper} {rest : List Oper} {o : Oper} {b : Act} {Q : Exit → Act → World → Prop} (base : Nat) {t e : TypeId} {z : Value} {size bytes : Nat} (rt : RowTy P t e size bytes z)
    (hg : o.guard = none) (s x : Operand) (hop : o.op = Op.call { callee := Callee.builtin Builtin.append, args := #[s, x], argTypes := #[t, t] })
    (v : Value) (n : Nat) (xs : List Value) (hs : b.eval s = v) (hown : w.ownsRow base e size v n xs) (a : Addr) (m c : Nat) (news : List Value) (hx : b.eval x = .slice (some a) m c)
    (hl : news.length = m * size) (hnews : ∀ j u, news[j]? = some u → w.cell? (a.add j) = some u) (h1 : ∀ u ∈ news, u.oneCell' = true)
    (h63 : n + m ≤ maxLen) (hbytes : (n + m) * bytes ≤ 140737488355328) (hbase : base ≤ w.heap.size)
    (hK : ∀ v' w', w'.ownsRow base e size v' (n + m) (xs ++ news) → w.grownBy w' v.ownBlock → (v' = .slice none 0 0 ↔ v = .slice none 0 0 ∧ m = 0) → (v'.ownBlock = v.ownBlock ∨ v'.ownBlock = some w.heap.size) → wpListIn F d P ops Q rest (b.put o.dst v') w') :
    wpListIn F d P ops Q (o :: rest) b w := by
  refine wpListIn_plain hg fun K hK' => ?_
  obtain ⟨v', w', hr, r1, r2, r3, r4⟩ := append_where (P := P) base o.type rt v n xs hown a m c news hl hnews h1 h63 hbytes hbase
  unfold Oper.wpIn
  refine ⟨?_, ?_⟩
  · simp [Oper.about, hop, resolve, Target.leads, Sem.run_pure]
  · rw [Oper.semAt_plain F _ _ (by rw [hop]; intro c hc'; cases hc')]
    simp [execOp, hop, resolve, invoke, builtin, hs, hx, hr, Result.andThen]
    exact hK' _ _ (hK v' w' r1 r2 r3 r4)
end

/-- A box whose slice is appended to, behind the store: what the loop's invariant wants. M: the blocks that may be written. -/
theorem upd_appended {W w1 : World} {n₀ B : Nat} {e : TypeId} {size : Nat} {v v' : Value} {m : Nat} {ys : List Value} {tmp : Obj} {M : Nat → Prop}
    (hM : ∀ k, M k → k < W.heap.size) (hMB : M B) (hMv : ∀ k, v.ownBlock = some k → M k)
    (hown' : w1.ownsRow n₀ e size v' m ys) (hgrow : (W.alloc tmp).grownBy w1 v.ownBlock) (hwhere : v'.ownBlock = v.ownBlock ∨ v'.ownBlock = some (W.heap.size + 1)) :
    Upd M (fun k => M k ∨ v'.ownBlock = some k) W (w1.setCell ⟨B, 0, none⟩ v') := by
  have hsz := hgrow.size
  simp only [World.size_alloc] at hsz
  have hss : (w1.setCell ⟨B, 0, none⟩ v').heap.size = w1.heap.size := by simp [World.setCell]
  refine ⟨hgrow.os, hgrow.tape, hgrow.output, by omega, fun k hk hm => ?_, fun k hk => ?_, fun k hk => ?_⟩
  · rw [Below.heap_setCell _ _ _ _ (show k ≠ B from fun e => hm (by rw [e]; exact hMB)), hgrow.block k (by simp; omega) (fun e => hm (hMv k e.symm)), Below.heap_alloc _ _ _ hk]
  · rcases hk with hk | hk
    · exact .inl hk
    · rcases hwhere with h | h
      · exact .inl (hMv k (h ▸ hk))
      · rw [h] at hk; cases hk; exact .inr (Nat.le_succ _)
  · rw [hss]
    rcases hk with hk | hk
    · have := hM k hk; omega
    · exact (hown'.lt k hk).2

/-- What an owned row of whole numbers reads as. -/
theorem Reads.of_owns {W : World} {n₀ : Nat} {e : TypeId} {v : Value} {zs : List Int} (h : W.ownsRow n₀ e 1 v zs.length (zs.map fun z => Value.int .i64 z)) :
    ∃ a cap, v = .slice a zs.length cap ∧ Reads W a zs.length (ints zs) := by
  rcases h.2 with ⟨rfl, h0⟩ | ⟨g, cap, cur, rfl, hb, hg, hn, hc, hs, ht⟩
  · exact ⟨none, 0, by rw [h0], .inl h0⟩
  · refine ⟨_, cap, rfl, .inr ⟨g, 0, rfl, (Array.getElem?_eq_some_iff.1 hg).1, fun i hi => ?_⟩⟩
    have hcell := World.ownsRow.cellAt (w := W) (base := n₀) (e := e) (size := 1) (g := g) (cap := cap) h i (by omega)
    rw [Nat.zero_add, hcell]
    simp [ints, gi, hi]
end
section
open Go.RowKit
theorem rtInt : RowTy Tryz.prog 28 3 1 8 (.int .i64 0) := by
  obtain ⟨i, h1, h2, h3, h4⟩ := info_parts (show (Tryz.prog.info? 3).map (fun i => (i.zero, i.size, i.bytes)) = some (some (.int .i64 0), 1, 8) by kernel_rfl)
  exact ⟨by kernel_rfl, ⟨i, h1, h2, h3, h4⟩, rfl, by omega, by omega⟩

/-- What the body of RunOf's loop has made: out's box, and the row that it owns. -/
def RunI (n0 bo : Nat) (w : World) (pre : List (List Int × List Int)) (M : Nat → Prop) (W : World) : Prop :=
  ∃ v, Boxed W bo 28 v ∧ W.ownsRow n0 3 1 v (pre.length + 1) ((0 :: pre.map fun s => gi s.2 0).map fun z => Value.int .i64 z) ∧ Below n0 w W ∧ (∀ k, v.ownBlock = some k → M k) ∧ M bo ∧ (∀ k, M k → k < W.heap.size ∧ n0 ≤ k)

theorem agree_blk {B : Nat} {M : Nat → Prop} {W1 W2 : World} (h : Agree B M W1 W2) {b : Nat} {o : Obj} (hM : M b) (hb : W1.heap[b]? = some o) : W2.heap[b]? = some o :=
  (h.same b (Array.getElem?_eq_some_iff.1 hb).1 hM).trans hb
theorem RunI.agree {B n0 bo : Nat} {w : World} {pre : List (List Int × List Int)} {M : Nat → Prop} {W1 W2 : World} (h : RunI n0 bo w pre M W1) (hag : Agree B M W1 W2) (hB : n0 ≤ B) : RunI n0 bo w pre M W2 := by
  obtain ⟨v, hv, hr, hb, hvm, hbm, hm⟩ := h
  refine ⟨v, agree_blk hag hbm hv, ⟨hr.1, ?_⟩, hb.trans (hag.below.mono hB), hvm, hbm, fun k hk => ⟨Nat.lt_of_lt_of_le (hm k hk).1 hag.size, (hm k hk).2⟩⟩
  rcases hr.2 with hn | ⟨g, cap, cur, rfl, hbg, hg, rest⟩
  · exact .inl hn
  · exact .inr ⟨g, cap, cur, rfl, hbg, agree_blk hag (hvm g rfl) hg, rest⟩
end
section
open Go.RowKit

section
variable {P : Program} {ops : Array Oper}

theorem Oper.uponIn_of_upon {l n : Nat} {o : Oper} {a : Act} {K : Act → World → Prop} {Q : Exit → Act → World → Prop} : ∀ {r : Result Next}, o.upon P a K Q r → o.uponIn (Fence.wide.inRound l) n P a K Q r
  | .ok (.value _) _, h => h
  | .ok .skip _, h => h
  | .ok (.defer _) _, h => h
  | .ok (.enter f args) w, h => ⟨fun hd => by simp [Fence.wide, Fence.inRound] at hd, CallsIn.inRound l ((callsIn_wide (n := n - 1)).2 (show Calls P f args w _ from h))⟩
  | .ok (.row row args) w, h => ⟨fun hd => by simp [Fence.wide, Fence.inRound] at hd, fun c cs _ => by
      obtain ⟨v, w', hR, hs⟩ := h c cs
      exact ⟨v, w', hR, stepsIn_wide.2 hs⟩⟩
  | .halt (.panic _) _, h => h

theorem wpOpIn_of_wpOp {l n i : Nat} {Q : Exit → Act → World → Prop} {K : Act → World → Prop} {a : Act} {w : World} (hnd : ∀ (j : Nat) (o : Oper) c, ops[j]? = some o → o.op ≠ .defer c) (hno : ¬ LetsOut Q)
    (h : wpOp P ops Q i K a w) : wpOpIn (Fence.wide.inRound l) n P ops Q i K a w := by
  unfold wpOp at h
  unfold wpOpIn
  split
  · rename_i ho; simp only [ho] at h; exact h
  · rename_i o ho
    simp only [ho] at h
    split
    · rename_i hw
      simp only [hw, if_true] at h
      rcases h with h | ⟨-, h⟩
      · unfold Oper.wp at h
        refine ⟨fun _ _ => trivial, ?_⟩
        rw [Oper.semAt_plain _ _ _ (fun c => hnd i o c ho)]
        exact Oper.uponIn_of_upon h
      · exact absurd h hno
    · rename_i hw
      simp only [hw] at h
      exact ⟨fun _ _ => trivial, h⟩

theorem wpAnyIn_of_wpAny {l n : Nat} {md : Region.Mode} {Q : Exit → Act → World → Prop} (hnd : ∀ (j : Nat) (o : Oper) c, ops[j]? = some o → o.op ≠ .defer c) (hno : ¬ LetsOut Q) :
    ∀ (fuel : Nat) (listed : Array Bool) (a : Act) (w : World), wpAny P md ops Q fuel listed a w → wpAnyIn (Fence.wide.inRound l) n P md ops Q fuel listed a w
  | 0, _, _, _, h => h
  | fuel + 1, _, _, _, h => ⟨h.1, fun i hi => wpOpIn_of_wpOp hnd hno (wpOp_mono (fun a' w' h' => wpAnyIn_of_wpAny hnd hno fuel _ a' w' h') (h.2 i hi))⟩

/-- No operation is a defer statement. -/
def noDeferB (ops : List Oper) : Bool := ops.all fun o => match o.op with | .defer _ => false | _ => true
theorem noDefer_spec {l : List Oper} (h : noDeferB l = true) : ∀ (j : Nat) (o : Oper) c, l.toArray[j]? = some o → o.op ≠ .defer c := by
  intro j o c hj he
  have hm : o ∈ l := by
    have := List.mem_of_getElem? (show l[j]? = some o by simpa using hj)
    exact this
  have := List.all_eq_true.1 h o hm
  rw [he] at this
  cases this

theorem wpAny_quiet_tail {Q : Exit → Act → World → Prop} {a : Act} {w : World} {l : List Oper} (n : Nat) (C : World → Prop) (hB : Region.lexTailB .any l.toArray n = true)
    (hC : C { w with drawn := w.drawn + 1 })
    (h : wpQuiet P l.toArray C (fun a' => ∀ w', C w' → wpList P l.toArray Q (l.drop n) a' w') (l.take n) a) : wpAny P .any l.toArray Q l.toArray.size (Array.replicate l.toArray.size false) a { w with drawn := w.drawn + 1 } := by
  simp only [Region.lexTailB, Bool.and_eq_true, decide_eq_true_eq] at hB
  obtain ⟨⟨⟨⟨hsel, hn⟩, hs⟩, hc⟩, hlex⟩ := hB
  have hn' : n < l.length := by simpa using hn
  have htl : (l.take n).length = n := by simp; omega
  have hdl : (l.drop n).length = l.toArray.size - n := by simp
  have inv0 : HeadInv .any l.toArray n (Array.replicate l.toArray.size false) :=
    ⟨by simp, fun j oj _ hl => (by rw [getD_replicate_false] at hl; cases hl), fun t _ ht => getD_in (by simpa using ht) (getD_replicate_false _ _)⟩
  have H := wpAnyQL_lex (md := .any) (g := l.toArray.size - n) hsel hs hc hn (l.take n) 0 _ a (fun j hj => by
    have hj' : j < n := by rw [htl] at hj; exact hj
    simp [hj']) (by simpa using htl) inv0 (by rw [htl]; exact hlex) h
  have := wpAny_of_qhead (C := C) (Q' := Q) (g := l.toArray.size - n) (fun listed a' w' hw' hL => by
    have := wpAny_of_seq (md := .any) (Q' := Q) (l.drop n) n listed a' w' (fun j => by simp [List.getElem?_drop]) (by rw [hdl]; exact hL.1) (hL.2 w' hw')
    rwa [hdl] at this) _ _ _ _ hC H
  rw [htl, show n + (l.toArray.size - n) = l.toArray.size by omega] at this
  exact this

/-- In a round: a region that draws its order, with a forced tail. -/
theorem wpIn_region_quiet_tail {id d r : Nat} {Q : Exit → Act → World → Prop} {a : Act} {w : World} {l : List Oper} (n : Nat) (C : World → Prop) (hm : P.follows .mixedOrders = true) (hB : Region.lexTailB .any l.toArray n = true)
    (hnd : noDeferB l = true) (hno : ¬ LetsOut Q) (hC : C { w with drawn := w.drawn + 1 })
    (h : wpQuiet P l.toArray C (fun a' => ∀ w', C w' → wpList P l.toArray Q (l.drop n) a' w') (l.take n) a) : (Code.region id l.toArray true).wpIn (Fence.wide.inRound r) d P Q a w :=
  wpIn_region_any hm (wpAnyIn_of_wpAny (noDefer_spec hnd) hno _ _ _ _ (wpAny_quiet_tail n C hB hC h))

/-- In a round: a region that draws its order, all of whose operations keep the class. -/
theorem wpIn_region_quiet_all {id d r : Nat} {Q : Exit → Act → World → Prop} {a : Act} {w : World} {l : List Oper} (C : World → Prop) (hm : P.follows .mixedOrders = true) (hB : Region.lexB .any l.toArray = true)
    (hnd : noDeferB l = true) (hno : ¬ LetsOut Q) (hC : C { w with drawn := w.drawn + 1 })
    (h : wpQuiet P l.toArray C (fun a' => ∀ w', C w' → Q .normal a' w') l a) : (Code.region id l.toArray true).wpIn (Fence.wide.inRound r) d P Q a w := by
  simp only [Region.lexB, Bool.and_eq_true] at hB
  refine wpIn_region_any hm (wpAnyIn_of_wpAny (noDefer_spec hnd) hno _ _ _ _ ?_)
  refine wpAny_of_quiet (C := C) (Q := fun a' => ∀ w', C w' → Q .normal a' w') (fun _ w' hw' h => h w' hw') _ _ _ _ hC ?_
  have := wpAnyQ_lex (C := C) (md := .any) hB.1 l 0 (Array.replicate l.toArray.size false) a (by simp) (by simpa using hB.2) h
  simpa using this
end
end
section
open Go.RowKit
def stepWay (s : List Int × List Int) : Int := gi s.2 0 - gi s.1 1
def stepErr (x : HT) (s : List Int × List Int) : Int := x.s * (cmdV x s.1 x.dl.toNat - gi s.1 0) * stepWay s
def stepWide (off : Int) (s : List Int × List Int) : Int := off * sizeI (stepWay s)
def sumE (f : List Int × List Int → Int) (l : List (List Int × List Int)) : Int := (l.map f).sum

theorem Blk.agree {B : Nat} {M : Nat → Prop} {W1 W2 : World} {b : Nat} {cs : Array Value} (h : Blk W1 b cs) (hag : Agree B M W1 W2) (hb : M b ∨ b < B) : Blk W2 b cs := by
  have hh : W2.heap[b]? = W1.heap[b]? := hb.elim (hag.same b h.1) (hag.low b)
  exact ⟨Nat.lt_of_lt_of_le h.1 hag.size, fun o => (World.cell?_of_block (w := W1) (a := ⟨b, o, none⟩) hh).trans (h.2.1 o), fun o => (World.frozen?_of_block (w := W1) (a := ⟨b, o, none⟩) hh).trans (h.2.2 o)⟩

theorem four (l : List Int) (h : l.length = 4) : l = [gi l 0, gi l 1, gi l 2, gi l 3] := by
  match l, h with
  | [a, b, c, d], _ => rfl
end
section
open Go.RowKit
attribute [local go_sem] Oper.semAt_some

/-- What the body of ErrorOf's loop has made. b: the first block of the loop's own variables; S: the heap's size where the loop begins. -/
structure ErrI (x : HT) (off : Int) (w : World) (b S : Nat) (pre : List (List Int × List Int)) (M : Nat → Prop) (W : World) : Prop where
  sum : Blk W (b + 1) #[.int .i64 (sumE (stepErr x) pre)]
  wide : Blk W (b + 2) #[.int .i64 (sumE (stepWide off) pre)]
  m1 : M (b + 1)
  m2 : M (b + 2)
  fit : ∀ k, M k → k < W.heap.size ∧ (k = b + 1 ∨ k = b + 2 ∨ S ≤ k)
  k0 : Blk W w.heap.size x.cells
  k1 : Blk W (w.heap.size + 1) #[.int .i64 off]
  k2 : Blk W (w.heap.size + 2) #[.int .i64 0, .int .i64 0]
  k9 : Blk W b x.cells
  below : Below w.heap.size w W

theorem ErrI.agree {x : HT} {off : Int} {w : World} {b S : Nat} {pre : List (List Int × List Int)} {M : Nat → Prop} {W1 W2 : World} (h : ErrI x off w b S pre M W1) (hag : Agree S M W1 W2) (hb : w.heap.size + 3 ≤ b) (hS : b < S) : ErrI x off w b S pre M W2 :=
  ⟨h.sum.agree hag (.inl h.m1), h.wide.agree hag (.inl h.m2), h.m1, h.m2, fun k hk => ⟨Nat.lt_of_lt_of_le (h.fit k hk).1 hag.size, (h.fit k hk).2⟩,
    h.k0.agree hag (.inr (by omega)), h.k1.agree hag (.inr (by omega)), h.k2.agree hag (.inr (by omega)), h.k9.agree hag (.inr (by omega)), h.below.trans (hag.below.mono (by omega))⟩
theorem ErrI.next {x : HT} {off : Int} {w : World} {b S : Nat} {pre : List (List Int × List Int)} {s : List Int × List Int} {M : Nat → Prop} {W W1 : World} (h : ErrI x off w b S pre M W) (hb1 : Below W.heap.size W W1) (hb : w.heap.size + 3 ≤ b) (hS : b + 5 ≤ S) {v1 v2 : Int}
    (h1 : v1 = sumE (stepErr x) (pre ++ [s])) (h2 : v2 = sumE (stepWide off) (pre ++ [s])) :
    ErrI x off w b S (pre ++ [s]) M ((W1.setCell ⟨b + 1, 0, none⟩ (.int .i64 v1)).setCell ⟨b + 1 + 1, 0, none⟩ (.int .i64 v2)) ∧ Upd M M W ((W1.setCell ⟨b + 1, 0, none⟩ (.int .i64 v1)).setCell ⟨b + 1 + 1, 0, none⟩ (.int .i64 v2)) := by
  have hu1 := Upd.of_below (fun k hk => (h.fit k hk).1) hb1
  have hu2 := Upd.setCell hu1.fit ⟨b + 1, 0, none⟩ (.int .i64 v1) h.m1
  have hu3 := Upd.setCell hu2.fit ⟨b + 1 + 1, 0, none⟩ (.int .i64 v2) h.m2
  have hu := (hu1.trans hu2).trans hu3
  have hn : ∀ k, k < b + 1 → ¬ M k := fun k hk hm => by rcases (h.fit k hm).2 with h | h | h <;> omega
  subst h1 h2
  refine ⟨⟨?_, ?_, h.m1, h.m2, fun k hk => ⟨hu.fit k hk, (h.fit k hk).2⟩, h.k0.upd hu (hn _ (by omega)), h.k1.upd hu (hn _ (by omega)), h.k2.upd hu (hn _ (by omega)), h.k9.upd hu (hn _ (by omega)), h.below.trans (hu.below (by have := h.k2.1; omega) (fun k hk => by rcases (h.fit k hk).2 with h | h | h <;> omega))⟩, hu⟩
  · exact ((h.sum.to hb1).set 0 _).other (p := ⟨b + 1 + 1, 0, none⟩) (by dsimp only; omega) _
  · exact ((h.wide.to hb1).other (p := ⟨b + 1, 0, none⟩) (by dsimp only; omega) _).set 0 _
end
section
open Go.RowKit

/-- A state as the reference has it. -/
structure RSt (x : HT) (st : List Int) : Prop where
  len : (st.length : Int) = x.dl + 2
  bd : ∀ i, -3 ≤ gi st i ∧ gi st i ≤ 3
end
section
open Go.RowKit

def nextR (st : List Int) (n : Int) : List Int := n :: st.take (st.length - 1)

theorem Reads.of_owns' {W : World} {n₀ : Nat} {e : TypeId} {v : Value} {zs : List Int} (h : W.ownsRow n₀ e 1 v zs.length (zs.map fun z => Value.int .i64 z)) :
    ∃ a cap, v = .slice a zs.length cap ∧ zs.length ≤ cap ∧ Reads W a zs.length (ints zs) ∧ ∀ p, a = some p → n₀ ≤ p.block := by
  obtain ⟨a, cap, rfl, hr⟩ := Reads.of_owns h
  rcases h.2 with ⟨e, h0⟩ | ⟨g, cap', cur, e, hb, hg, hn, -⟩
  · injection e with e1 _ _; exact ⟨a, cap, rfl, by omega, hr, fun p hp => by rw [e1] at hp; cases hp⟩
  · cases e; exact ⟨_, _, rfl, hn, hr, fun p hp => by cases hp; exact hb⟩

/-- The elements of a slice, as the copying of them asks for them. -/
theorem Reads.news {W : World} {b off m : Nat} {zs : List Int} (hc : ∀ i, i < m → W.cell? ⟨b, off + i, none⟩ = some (ints zs i)) (hm : m ≤ zs.length) :
    ∀ j u, ((zs.take m).map fun z => Value.int .i64 z)[j]? = some u → W.cell? ((⟨b, off, none⟩ : Addr).add j) = some u := by
  intro j u hj
  have hjl : j < ((zs.take m).map fun z => Value.int .i64 z).length := (List.getElem?_eq_some_iff.1 hj).1
  simp at hjl
  have e : (⟨b, off, none⟩ : Addr).add j = ⟨b, off + j, none⟩ := by unfold Addr.add; split <;> simp_all
  rw [e, hc j (by omega), ← hj]
  have h1 : j < m := by omega
  have h2 : j < zs.length := by omega
  rw [List.getElem?_map, List.getElem?_take, if_pos h1, List.getElem?_eq_getElem h2]
  simp [ints, gi, h2]

theorem ones (l : List Int) : ∀ u ∈ (l.map fun z => Value.int .i64 z), u.oneCell' = true := by
  intro u hu
  obtain ⟨z, _, rfl⟩ := List.mem_map.1 hu
  rfl
end
end Go.Proofs.YtbpcapcgbnbknaaGreat
