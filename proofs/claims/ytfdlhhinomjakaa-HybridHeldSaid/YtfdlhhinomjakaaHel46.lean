/-
  Texts of this claim, in their build order: Lib21 BS11 BS12.
-/
import Derived.Test.YtfdlhhinomjakaaHel7
import Derived.ArgAppend
import Derived.Laws.IdiomCopy
import Derived.Test.YtfdlhhinomjakaaHel43
import Derived.Test.YtfdlhhinomjakaaHel36
import Derived.Test.YtfdlhhinomjakaaHel31

namespace Go.Proofs.Ytfdlhhinomjakaa
section
open Go.RowKit

structure QRow (W : World) (B size g off n cap : Nat) (xs : List Value) : Prop where
  len : xs.length = n * size
  base : B ≤ g
  lt : g < W.heap.size
  room : n ≤ cap
  most : cap ≤ maxLen
  free : ∀ j, j < cap * size → (W.cell? ⟨g, off + j, none⟩).isSome = true ∧ W.frozen? ⟨g, off + j, none⟩ = false
  at1 : ∀ j u, xs[j]? = some u → W.cell? ⟨g, off + j, none⟩ = some u
theorem QRow.of_owns {W : World} {B size g n cap : Nat} {e : TypeId} {xs : List Value} (h : W.ownsRow B e size (.slice (some ⟨g, 0, none⟩) n cap) n xs) : QRow W B size g 0 n cap xs := by
  have h3 := h.cells (g := g) rfl
  rcases h.2 with ⟨e0, -⟩ | ⟨g', cap', cur, e0, hb, hg, hn, hc, hs, -⟩
  · cases e0
  · cases e0
    refine ⟨h.1, hb, (Array.getElem?_eq_some_iff.1 hg).1, hn, hc, fun j hj => ?_, fun j u hu => ?_⟩
    · have hj' : j < cur.size := by omega
      constructor
      · simp [World.cell?, hg, hj']
      · simp [World.frozen?, hg]
    · have := h3 j u hu
      rw [Addr.add_lit] at this
      exact this
theorem QRow.same {W W' : World} {B size g off n cap : Nat} {xs : List Value} (h : QRow W B size g off n cap xs) (hb : W'.heap[g]? = W.heap[g]?) (hs : W.heap.size ≤ W'.heap.size) : QRow W' B size g off n cap xs :=
  ⟨h.len, h.base, Nat.lt_of_lt_of_le h.lt hs, h.room, h.most, fun j hj => ⟨by rw [World.cell?_of_block hb]; exact (h.free j hj).1, by rw [World.frozen?_of_block hb]; exact (h.free j hj).2⟩, fun j u hu => by rw [World.cell?_of_block hb]; exact h.at1 j u hu⟩
theorem QRow.to {W W' : World} {B size g off n cap : Nat} {xs : List Value} (h : QRow W B size g off n cap xs) (hb : Below W.heap.size W W') : QRow W' B size g off n cap xs := h.same (hb.block g h.lt) hb.size
theorem QRow.grown {W W' : World} {B size g off n cap : Nat} {xs : List Value} {row : Option Nat} (h : QRow W B size g off n cap xs) (hg : W.grownBy W' row) (hr : some g ≠ row) : QRow W' B size g off n cap xs := h.same (hg.block g h.lt hr) hg.size
/-- Its head taken off. -/
theorem QRow.tail {W : World} {B size g off n cap : Nat} {x1 xs : List Value} (h : QRow W B size g off (n + 1) cap (x1 ++ xs)) (hx : x1.length = size) : QRow W B size g (off + size) n (cap - 1) xs := by
  have hr := h.room
  have hl := h.len
  rw [List.length_append, hx, Nat.add_mul, Nat.one_mul] at hl
  refine ⟨by omega, h.base, h.lt, by omega, Nat.le_trans (Nat.sub_le _ _) h.most, fun j hj => ?_, fun j u hu => ?_⟩
  · have h1 : size + j < cap * size := by
      have : (cap - 1) * size + size = cap * size := by rw [← Nat.succ_mul]; congr 1; omega
      omega
    have := h.free (size + j) h1
    rw [← Nat.add_assoc] at this
    exact this
  · have := h.at1 (size + j) u (by rw [List.getElem?_append_right (by omega), hx, Nat.add_sub_cancel_left]; exact hu)
    rw [← Nat.add_assoc] at this
    exact this
theorem grownBy_setCells (b : Nat) : ∀ (vs : List Value) (o : Nat) (w : World), w.grownBy (w.setCells b o vs) (some b)
  | [], _, w => ⟨rfl, rfl, rfl, Nat.le_refl _, fun _ _ _ => rfl⟩
  | v :: vs, o, w => by
    have h1 := grownBy_setCells b vs (o + 1) (w.setCell ⟨b, o, none⟩ v)
    have hz : (w.setCell ⟨b, o, none⟩ v).heap.size = w.heap.size := by simp [World.setCell]
    refine ⟨h1.os.trans rfl, h1.tape.trans rfl, h1.output.trans rfl, Nat.le_trans (Nat.le_of_eq hz.symm) h1.size, fun k hk hne => (h1.block k (by omega) hne).trans ?_⟩
    have hkb : k ≠ b := fun e => hne (by rw [e])
    simp [World.setCell, Array.getElem?_modify, hkb.symm]
/-- More behind it. -/
theorem QRow.app {P : Program} {w : World} {B size bytes g off n cap : Nat} {t e : TypeId} {z : Value} {xs : List Value} (rt : RowTy P t e size bytes z) (h : QRow w B size g off n cap xs) (ty : TypeId)
    (a : Addr) (m c : Nat) (news : List Value) (hl : news.length = m * size) (hnews : ∀ j u, news[j]? = some u → w.cell? (a.add j) = some u) (h1 : ∀ u ∈ news, u.oneCell' = true)
    (h63 : n + m ≤ maxLen) (hbytes : (n + m) * bytes ≤ 140737488355328) (hbase : B ≤ w.heap.size) :
    ∃ g' off' cap' w', (Builtin.append_ #[t, t] ty #[.slice (some ⟨g, off, none⟩) n cap, .slice (some a) m c]).run P w = .ok (.slice (some ⟨g', off', none⟩) (n + m) cap') w' ∧ QRow w' B size g' off' (n + m) cap' (xs ++ news) ∧ w.grownBy w' (some g) ∧ (g' = g ∨ w.heap.size ≤ g') := by
  obtain ⟨i, hi, hz, hs, hb⟩ := rt.i
  have hlen : (xs ++ news).length = (n + m) * size := by rw [List.length_append, h.len, hl, Nat.add_mul]
  by_cases hroom : n + m ≤ cap
  · have hin : ∀ j, j < news.length → n * size + j < cap * size := fun j hj => by
      have h2 : (n + m) * size ≤ cap * size := Nat.mul_le_mul_right _ hroom
      rw [Nat.add_mul] at h2
      omega
    have hfr : ∀ j, j < news.length → (w.cell? ⟨g, off + n * size + j, none⟩).isSome = true ∧ w.frozen? ⟨g, off + n * size + j, none⟩ = false := fun j hj => by
      rw [Nat.add_assoc]; exact h.free _ (hin j hj)
    subst hs
    have hr := run_append_room_cells (P := P) w t ty e i rt.u hi g off n cap a m c news hl hnews h1 hroom (fun j hj => (hfr j hj).1) (fun j hj => (hfr j hj).2)
    have hgr := grownBy_setCells g news (off + n * i.size) w
    refine ⟨g, off, cap, _, hr, ⟨hlen, h.base, Nat.lt_of_lt_of_le h.lt hgr.size, hroom, h.most, fun j hj => ⟨?_, ?_⟩, fun j u hu => ?_⟩, hgr, .inl rfl⟩
    · by_cases hj2 : n * i.size ≤ j ∧ j < n * i.size + news.length
      · obtain ⟨k, rfl⟩ : ∃ k, j = n * i.size + k := ⟨j - n * i.size, by omega⟩
        have := World.cell?_setCells_in g news (off + n * i.size) w (fun j hj => (hfr j hj).1) k (by omega)
        rw [Nat.add_assoc] at this
        rw [this]; rfl
      · rw [World.cell?_setCells_out g news (off + n * i.size) w ⟨g, off + j, none⟩ (fun _ _ => by dsimp only; omega)]
        exact (h.free j hj).1
    · rw [World.frozen?_setCells]; exact (h.free j hj).2
    · by_cases hj2 : j < n * i.size
      · rw [World.cell?_setCells_out g news (off + n * i.size) w ⟨g, off + j, none⟩ (fun _ _ => by dsimp only; omega)]
        rw [List.getElem?_append_left (by rw [h.len]; exact hj2)] at hu
        exact h.at1 j u hu
      · obtain ⟨k, rfl⟩ : ∃ k, j = n * i.size + k := ⟨j - n * i.size, by omega⟩
        rw [List.getElem?_append_right (by rw [h.len]; omega), h.len, Nat.add_sub_cancel_left] at hu
        obtain ⟨hk, hu2⟩ := List.getElem?_eq_some_iff.1 hu
        have := World.cell?_setCells_in g news (off + n * i.size) w (fun j hj => (hfr j hj).1) k hk
        rw [Nat.add_assoc] at this
        rw [this, hu2]
  · obtain ⟨v', w', hr, hown, hgr⟩ := run_append_arg_grows (P := P) w t ty e i z size bytes rt.u hi hz hs hb rt.zs rt.pos ⟨g, off, none⟩ n cap xs h.len (fun j u hu => by rw [Addr.add_lit]; exact h.at1 j u hu) a m c news hl hnews (by omega) h63 hbytes
    have hown' := hown
    rcases hown.2 with ⟨-, h0⟩ | ⟨g', cap', cur, e0, hb', hg', -⟩
    · omega
    · subst e0
      have hq := QRow.of_owns hown'
      refine ⟨g', 0, cap', w', hr, ⟨hq.len, Nat.le_trans hbase hq.base, hq.lt, hq.room, hq.most, hq.free, hq.at1⟩, ⟨hgr.os, hgr.tape, hgr.output, hgr.size, fun k hk _ => hgr.block k hk (by simp)⟩, .inr hb'⟩

/-- .. in a walk inside a fence. -/
theorem wpListIn_appQ {F : Fence} {d : Nat} {P : Program} {w : World} {ops : Array Oper} {rest : List Oper} {o : Oper} {b : Act} {Q : Exit → Act → World → Prop} {B size bytes g off n cap : Nat} {t e : TypeId} {z : Value} {xs : List Value} (rt : RowTy P t e size bytes z)
    (hg : o.guard = none) (s x : Operand) (hop : o.op = Op.call { callee := Callee.builtin Builtin.append, args := #[s, x], argTypes := #[t, t] })
    (hs : b.eval s = .slice (some ⟨g, off, none⟩) n cap) (h : QRow w B size g off n cap xs) (a : Addr) (m c : Nat) (news : List Value) (hx : b.eval x = .slice (some a) m c)
    (hl : news.length = m * size) (hnews : ∀ j u, news[j]? = some u → w.cell? (a.add j) = some u) (h1 : ∀ u ∈ news, u.oneCell' = true)
    (h63 : n + m ≤ maxLen) (hbytes : (n + m) * bytes ≤ 140737488355328) (hbase : B ≤ w.heap.size)
    (hK : ∀ g' off' cap' w', QRow w' B size g' off' (n + m) cap' (xs ++ news) → w.grownBy w' (some g) → (g' = g ∨ w.heap.size ≤ g') → wpListIn F d P ops Q rest (b.put o.dst (.slice (some ⟨g', off', none⟩) (n + m) cap')) w') :
    wpListIn F d P ops Q (o :: rest) b w := by
  refine wpListIn_plain hg fun K hK' => ?_
  obtain ⟨g', off', cap', w', hr, r1, r2, r3⟩ := h.app rt o.type a m c news hl hnews h1 h63 hbytes hbase
  unfold Oper.wpIn
  refine ⟨?_, ?_⟩
  · simp [Oper.about, hop, resolve, Target.leads, Sem.run_pure]
  · rw [Oper.semAt_plain F _ _ (by rw [hop]; intro c hc'; cases hc')]
    simp [execOp, hop, resolve, invoke, builtin, hs, hx, hr, Result.andThen]
    exact hK' _ _ (hK g' off' cap' w' r1 r2 r3)
end
section
open Go.RowKit

/-- The way to a state, as the map holds it. -/
def wyL (l : List (List Int × List Int)) (z : List Int) : List Int := ((l.find? fun a => decide (a.1 = z)).map (·.2)).getD []
def wayF (l : List (List Int × List Int)) (dw : List Int → Option Addr × Nat) (z : List Int) : Option Value :=
  if z ∈ l.map (·.1) then some (.slice (dw z).1 (wyL l z).length (dw z).2) else none
theorem wayF_is (l : List (List Int × List Int)) (dw : List Int → Option Addr × Nat) (z : List Int) : (wayF l dw z).isSome = decide (z ∈ l.map (·.1)) := by
  unfold wayF
  by_cases h : z ∈ l.map (·.1)
  · rw [if_pos h, decide_eq_true h]; rfl
  · rw [if_neg h, decide_eq_false h]; rfl
theorem wyL_at : ∀ {l : List (List Int × List Int)} {a : List Int × List Int}, (l.map (·.1)).Nodup → a ∈ l → wyL l a.1 = a.2
  | b :: l, a, hn, ha => by
    rw [List.map_cons, List.nodup_cons] at hn
    unfold wyL
    by_cases h : b.1 = a.1
    · rw [List.find?_cons_of_pos (by simpa using h)]
      rcases List.mem_cons.1 ha with rfl | ha
      · rfl
      · exact (hn.1 (h ▸ List.mem_map_of_mem ha)).elim
    · rw [List.find?_cons_of_neg (by simpa using h)]
      rcases List.mem_cons.1 ha with rfl | ha
      · exact (h rfl).elim
      · exact wyL_at hn.2 ha
theorem wayF_at {l : List (List Int × List Int)} {dw : List Int → Option Addr × Nat} {a : List Int × List Int} (hn : (l.map (·.1)).Nodup) (ha : a ∈ l) : wayF l dw a.1 = some (.slice (dw a.1).1 a.2.length (dw a.1).2) := by
  unfold wayF
  rw [if_pos (List.mem_map_of_mem ha), wyL_at hn ha]
/-- One more state with its way. -/
def dwA (dw : List Int → Option Addr × Nat) (t : List Int) (p : Option Addr × Nat) (z : List Int) : Option Addr × Nat := if z = t then p else dw z
theorem wyL_snoc {l : List (List Int × List Int)} {t w : List Int} (h : ¬ t ∈ l.map (·.1)) (z : List Int) : wyL (l ++ [(t, w)]) z = if z = t then w else wyL l z := by
  unfold wyL
  rw [List.find?_append]
  by_cases hz : z = t
  · subst hz
    rw [if_pos rfl, List.find?_eq_none.2 (fun a ha e => h (by rw [← of_decide_eq_true e]; exact List.mem_map_of_mem ha))]
    simp
  · rw [if_neg hz]
    have hne : ¬ t = z := fun e => hz e.symm
    cases hf : l.find? (fun a => decide (a.1 = z)) with
    | some a => simp
    | none => simp [hne]
theorem wayF_snoc {l : List (List Int × List Int)} {dw : List Int → Option Addr × Nat} {t w : List Int} {p : Option Addr × Nat} (h : ¬ t ∈ l.map (·.1)) (z : List Int) :
    (if z = t then some (Value.slice p.1 w.length p.2) else wayF l dw z) = wayF (l ++ [(t, w)]) (dwA dw t p) z := by
  unfold wayF dwA
  rw [wyL_snoc h, List.map_append]
  by_cases hz : z = t
  · simp [hz]
  · have e : (z ∈ l.map (·.1) ++ [(t, w)].map (·.1)) = (z ∈ l.map (·.1)) := by simp [hz]
    rw [if_neg hz, if_neg hz, if_neg hz]
    simp only [e]

/-- The memory of the search: the receiver, the map and its box, the queue and its box, the ways. -/
structure SchM (x : HT) (l : List (List Int × List Int)) (i n0 bm b4 b5 B g off n cap : Nat) (dw : List Int → Option Addr × Nat) (W : World) : Prop where
  k1 : Blk W n0 x.cells
  mp : MapV W bm l.length (wayF l dw)
  k4 : Blk W b4 #[.map (some bm)]
  k5 : Blk W b5 #[.slice (some ⟨g, off, none⟩) n cap]
  qu : QRow W B 4 g off n cap (hcells ((l.map (·.1)).drop i))
  wy : ∀ a ∈ l, Reads W (dw a.1).1 a.2.length (ints a.2) ∧ ∀ q, (dw a.1).1 = some q → q.block < W.heap.size ∧ q.block ≠ g ∧ q.block ≠ bm ∧ q.block ≠ b5
  lt1 : n0 < bm
  lt2 : bm < b4
  lt3 : b4 < B
  lt4 : b4 < b5
  ne : g ≠ b5
theorem SchM.to {x : HT} {l : List (List Int × List Int)} {i n0 bm b4 b5 B g off n cap : Nat} {dw : List Int → Option Addr × Nat} {W W' : World} (h : SchM x l i n0 bm b4 b5 B g off n cap dw W) (hb : Below W.heap.size W W') : SchM x l i n0 bm b4 b5 B g off n cap dw W' :=
  ⟨h.k1.to hb, h.mp.to hb, h.k4.to hb, h.k5.to hb, h.qu.to hb, fun a ha => ⟨(h.wy a ha).1.to hb, fun q hq => by
    obtain ⟨h1, h2⟩ := (h.wy a ha).2 q hq
    exact ⟨Nat.lt_of_lt_of_le h1 hb.size, h2⟩⟩, h.lt1, h.lt2, h.lt3, h.lt4, h.ne⟩
/-- One more state: known with its way (W1), at the queue's end (W3), stored. -/
theorem SchM.add {x : HT} {l : List (List Int × List Int)} {i n0 bm b4 b5 B g off n cap g' off' cap' : Nat} {dw : List Int → Option Addr × Nat} {W W1 W3 : World} {t ws : List Int} {p : Option Addr × Nat} {ob : Obj} (h : SchM x l i n0 bm b4 b5 B g off n cap dw W)
    (hw : Reads W p.1 ws.length (ints ws)) (hp : ∀ q, p.1 = some q → q.block < W.heap.size ∧ q.block ≠ g ∧ q.block ≠ bm ∧ q.block ≠ b5) (hnew : ¬ t ∈ l.map (·.1)) (hi : i ≤ l.length)
    (hmap : MapV W1 bm (l.length + 1) (fun z => if z = t then some (.slice p.1 ws.length p.2) else wayF l dw z)) (hg1 : W.grownBy W1 (some bm))
    (hq : QRow W3 B 4 g' off' (n + 1) cap' (hcells ((l.map (·.1)).drop i) ++ [.int .i64 (gi t 0), .int .i64 (gi t 1), .int .i64 (gi t 2), .int .i64 (gi t 3)])) (hg3 : (W1.alloc ob).grownBy W3 (some g)) (hgg : g' = g ∨ (W1.alloc ob).heap.size ≤ g') :
    SchM x (l ++ [(t, ws)]) i n0 bm b4 b5 B g' off' (n + 1) cap' (dwA dw t p) (W3.setCell ⟨b5, 0, none⟩ (.slice (some ⟨g', off', none⟩) (n + 1) cap')) := by
  have l1 := h.lt1
  have l2 := h.lt2
  have l3 := h.lt3
  have l4 := h.lt4
  have hbg := h.qu.base
  have hne := h.ne
  have hs1 := hg1.size
  have hs3 := hg3.size
  simp only [World.size_alloc] at hs3 hgg
  have hb5 := h.k5.1
  have g4 := grownBy_setCell' W3 b5 (.slice (some ⟨g', off', none⟩) (n + 1) cap')
  have blk : ∀ {b : Nat} {cs : Array Value}, Blk W b cs → b ≠ bm → b ≠ g → Blk W3 b cs := fun hb h1 h2 => blk_grown ((blk_grown hb hg1 (fun e => by injection e with e; exact h1 e.symm)).alloc ob) hg3 (fun e => by injection e with e; exact h2 e.symm)
  have hne' : g' ≠ b5 := by
    rcases hgg with e | e
    · rw [e]; exact hne
    · omega
  have rd : ∀ {a : Option Addr} {m : Nat} {f : Nat → Value}, Reads W a m f → (∀ q, a = some q → q.block < W.heap.size ∧ q.block ≠ g ∧ q.block ≠ bm ∧ q.block ≠ b5) → Reads (W3.setCell ⟨b5, 0, none⟩ (.slice (some ⟨g', off', none⟩) (n + 1) cap')) a m f ∧ ∀ q, a = some q → q.block < (W3.setCell ⟨b5, 0, none⟩ (.slice (some ⟨g', off', none⟩) (n + 1) cap')).heap.size ∧ q.block ≠ g' ∧ q.block ≠ bm ∧ q.block ≠ b5 := fun hr hqq =>
    ⟨(((hr.grown hg1 (fun q hq e => by injection e with e; exact (hqq q hq).2.2.1 e)).alloc ob).grown hg3 (fun q hq e => by injection e with e; exact (hqq q hq).2.1 e)).grown g4 (fun q hq e => by injection e with e; exact (hqq q hq).2.2.2 e), fun q hq => by
      obtain ⟨q1, q2, q3, q4⟩ := hqq q hq
      have := g4.size
      refine ⟨by omega, ?_, q3, q4⟩
      rcases hgg with e | e
      · rw [e]; exact q2
      · omega⟩
  refine ⟨?_, ?_, ?_, ?_, ?_, ?_, l1, l2, l3, l4, hne'⟩
  · exact (blk h.k1 (by omega) (by omega)).other (p := ⟨b5, 0, none⟩) (by dsimp only; omega) _
  · rw [List.length_append]
    exact (((hmap.to (bAlloc (bSelf W1) ob)).grown hg3 (fun e => by injection e with e; omega)).grown g4 (fun e => by injection e with e; omega)).ext (fun s _ => wayF_snoc hnew s)
  · exact (blk h.k4 (by omega) (by omega)).other (p := ⟨b5, 0, none⟩) (by dsimp only; omega) _
  · have := (blk h.k5 (by omega) (fun e => hne e.symm)).set 0 (.slice (some ⟨g', off', none⟩) (n + 1) cap')
    exact this
  · rw [List.map_append, List.drop_append_of_le_length (by rw [List.length_map]; exact hi)]
    have := hq.grown g4 (fun e => by injection e with e; exact hne' e)
    rw [← hcells_snoc] at this
    exact this
  · intro a ha
    rcases List.mem_append.1 ha with ha | ha
    · have e1 : dwA dw t p a.1 = dw a.1 := by unfold dwA; rw [if_neg (fun e => hnew (by rw [← e]; exact List.mem_map_of_mem ha))]
      rw [e1]
      exact rd (h.wy a ha).1 (h.wy a ha).2
    · have : a = (t, ws) := by simpa using ha
      subst this
      have e1 : dwA dw t p t = p := by unfold dwA; rw [if_pos rfl]
      dsimp only
      rw [e1]
      exact rd hw hp

theorem reads_same {w w' : World} {a : Option Addr} {m : Nat} {f : Nat → Value} (h : Reads w a m f) (hs : w.heap.size ≤ w'.heap.size) (hb : ∀ q, a = some q → w'.heap[q.block]? = w.heap[q.block]?) : Reads w' a m f := by
  rcases h with h | ⟨b, off, ha, hlt, hc⟩
  · exact .inl h
  · exact .inr ⟨b, off, ha, Nat.lt_of_lt_of_le hlt hs, fun i hi => (World.cell?_of_block (a := ⟨b, off + i, none⟩) (hb ⟨b, off, none⟩ ha)).trans (hc i hi)⟩
/-- Its blocks. -/
def SchB (l : List (List Int × List Int)) (n0 bm b4 b5 g : Nat) (dw : List Int → Option Addr × Nat) (k : Nat) : Prop :=
  k = n0 ∨ k = bm ∨ k = b4 ∨ k = b5 ∨ k = g ∨ ∃ a ∈ l, ∃ q, (dw a.1).1 = some q ∧ q.block = k
theorem SchM.agree {x : HT} {l : List (List Int × List Int)} {i n0 bm b4 b5 B g off n cap : Nat} {dw : List Int → Option Addr × Nat} {W W' : World} {B' : Nat} {M : Nat → Prop} (h : SchM x l i n0 bm b4 b5 B g off n cap dw W) (hag : Agree B' M W W')
    (hM : ∀ k, SchB l n0 bm b4 b5 g dw k → k < B' ∨ M k) : SchM x l i n0 bm b4 b5 B g off n cap dw W' := by
  have hk : ∀ k, k < W.heap.size → SchB l n0 bm b4 b5 g dw k → W'.heap[k]? = W.heap[k]? := fun k hlt hb => (hM k hb).elim (hag.low k) (hag.same k hlt)
  have hw : ∀ a ∈ l, ∀ q, (dw a.1).1 = some q → W'.heap[q.block]? = W.heap[q.block]? := fun a ha q hq => hk _ ((h.wy a ha).2 q hq).1 (.inr (.inr (.inr (.inr (.inr ⟨a, ha, q, hq, rfl⟩)))))
  refine ⟨h.k1.same (hk _ h.k1.1 (.inl rfl)), h.mp.same (hk _ h.mp.lt (.inr (.inl rfl))), h.k4.same (hk _ h.k4.1 (.inr (.inr (.inl rfl)))), h.k5.same (hk _ h.k5.1 (.inr (.inr (.inr (.inl rfl))))), h.qu.same (hk _ h.qu.lt (.inr (.inr (.inr (.inr (.inl rfl)))))) hag.size, fun a ha => ⟨reads_same (h.wy a ha).1 hag.size (hw a ha), fun q hq => ?_⟩, h.lt1, h.lt2, h.lt3, h.lt4, h.ne⟩
  obtain ⟨h1, h2⟩ := (h.wy a ha).2 q hq
  exact ⟨Nat.lt_of_lt_of_le h1 hag.size, h2⟩
end
section
open Go.RowKit

theorem srH_out {x : HT} {a : List Int × List Int} {s : Sr (List Int)} {f : Int} (hs : s.stp = none) (h : inB x (nextV x a.1 f) = false) : srC (nxH x) a s f = ⟨s.fnd, some (a.2 ++ [f])⟩ := by
  unfold srC nxH
  rw [hs, h]
  rfl
theorem srH_in {x : HT} {a : List Int × List Int} {s : Sr (List Int)} {f : Int} (hs : s.stp = none) (h : inB x (nextV x a.1 f) = true) (hm : nextL x a.1 (nextV x a.1 f) ∈ s.fnd.map (·.1)) : srC (nxH x) a s f = s := by
  unfold srC nxH
  rw [hs, if_pos h]
  dsimp only
  obtain ⟨b, hb, e⟩ := List.mem_map.1 hm
  rw [if_pos (List.any_eq_true.2 ⟨b, hb, decide_eq_true e⟩)]
theorem srH_new {x : HT} {a : List Int × List Int} {s : Sr (List Int)} {f : Int} (hs : s.stp = none) (h : inB x (nextV x a.1 f) = true) (hm : ¬ nextL x a.1 (nextV x a.1 f) ∈ s.fnd.map (·.1)) : srC (nxH x) a s f = ⟨s.fnd ++ [(nextL x a.1 (nextV x a.1 f), a.2 ++ [f])], none⟩ := by
  unfold srC nxH
  rw [hs, if_pos h]
  dsimp only
  rw [if_neg (fun hc => by
    obtain ⟨b, hb, e⟩ := List.any_eq_true.1 hc
    exact hm (of_decide_eq_true e ▸ List.mem_map_of_mem hb))]
end
end Go.Proofs.Ytfdlhhinomjakaa
