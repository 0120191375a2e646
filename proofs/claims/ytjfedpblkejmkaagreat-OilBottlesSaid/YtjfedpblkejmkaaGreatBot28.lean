/-
  Texts of this claim, in their build order: OM4 OM5.
-/
import Derived.Test.YtjfedpblkejmkaaGreatBot25
import Derived.Test.YtjfedpblkejmkaaGreatBot27
import Derived.Test.YtjfedpblkejmkaaGreatBot24
import Derived.Test.YtjfedpblkejmkaaGreatBot17
import Derived.ArgAppend
import Derived.WalkSpells

namespace Go.Proofs.YtjfedpblkejmkaaGreat
section
open Go.RowKit

theorem rtArr : RowTy Tryz.prog 207 209 3 40 (.agg #[.int .i64 0, .bool false, .slice none 0 0]) := by
  obtain ⟨i, h1, h2, h3, h4⟩ := info_parts (show (Tryz.prog.info? 209).map (fun i => (i.zero, i.size, i.bytes)) = some (some (.agg #[.int .i64 0, .bool false, .slice none 0 0]), 3, 40) by kernel_rfl)
  exact ⟨by kernel_rfl, ⟨i, h1, h2, h3, h4⟩, rfl, by omega, by omega⟩
theorem rtInts : RowTy Tryz.prog 47 3 1 8 (.int .i64 0) := by
  obtain ⟨i, h1, h2, h3, h4⟩ := info_parts (show (Tryz.prog.info? 3).map (fun i => (i.zero, i.size, i.bytes)) = some (some (.int .i64 0), 1, 8) by kernel_rfl)
  exact ⟨by kernel_rfl, ⟨i, h1, h2, h3, h4⟩, rfl, by omega, by omega⟩

def arrR (now : List (OSt × List Int)) (ds : Nat → Option Addr × Nat) (k j : Nat) : Value :=
  if j = 0 then .int .i64 (ag now k).1.1 else if j = 1 then .bool (ag now k).1.2 else .slice (ds k).1 (ag now k).2.length (ds k).2
theorem arrF_recs (now : List (OSt × List Int)) (ds : Nat → Option Addr × Nat) : arrF now ds = recs 3 (arrR now ds) := rfl
theorem ag_app1 {l m : List (OSt × List Int)} {k : Nat} (h : k < l.length) : ag (l ++ m) k = ag l k := by
  unfold ag; rw [List.getD_eq_getElem?_getD, List.getD_eq_getElem?_getD, List.getElem?_append_left h]
theorem ag_app2 (l : List (OSt × List Int)) (x : OSt × List Int) : ag (l ++ [x]) l.length = x := by
  unfold ag; rw [List.getD_eq_getElem?_getD, List.getElem?_append_right (Nat.le_refl _), Nat.sub_self]; rfl
theorem nodupLe {α : Type} {l : List α} : ∀ {u : List α}, l.Nodup → (∀ x ∈ l, x ∈ u) → l.length ≤ u.length := by
  induction l with
  | nil => intro u _ _; simp
  | cons a l ih =>
    intro u hn hs
    have hn' := List.nodup_cons.1 hn
    obtain ⟨p, q, e⟩ := List.append_of_mem (hs a (List.mem_cons_self ..))
    have := ih (u := p ++ q) hn'.2 (fun x hx => by
      have := hs x (List.mem_cons_of_mem _ hx)
      rw [e] at this
      rcases List.mem_append.1 this with h | h
      · exact List.mem_append_left _ h
      · rcases List.mem_cons.1 h with h | h
        · subst h; exact absurd hx hn'.1
        · exact List.mem_append_right _ h)
    rw [e]
    rw [List.length_append] at this ⊢
    simp only [List.length_cons]
    omega
/-- States without repeats are not many. -/
theorem few_sts {p : Plt} (hp : PltOk p) {l : List (OSt × List Int)} (hn : (sts l).Nodup) (hs : ∀ x ∈ l, StOk p x.1) : l.length ≤ 402 := by
  have h1 := nodupLe hn (u := allS p) (fun x hx => by
    obtain ⟨y, hy, rfl⟩ := List.mem_map.1 hx
    exact mem_allS.2 (hs y hy))
  have h2 := cap_le hp
  have h3 := cap_pos hp
  rw [allS_len (by omega)] at h1
  unfold sts at h1
  rw [List.length_map] at h1
  omega

/-- What emptied the plant, in a block of the iterator's own. -/
def EmOwn (W : World) (B1 : Nat) (v8 v10 : Value) : Option (List Int) → Prop
  | none => v10 = .slice none 0 0
  | some e => ∃ b c, v10 = .slice (some ⟨b, 0, none⟩) e.length c ∧ e.length ≤ c ∧ Reads W (some ⟨b, 0, none⟩) e.length (ints e) ∧ B1 ≤ b ∧ b < W.heap.size ∧ v8.ownBlock ≠ some b
/-- The state of a round. -/
structure StpM (p : Plt) (bm : Nat) (T : Tks) (v8 v10 : Value) (da : Nat → Option Addr × Nat) (wr : World) : Prop where
  own : wr.ownsRow (bm + 1) 209 3 v8 T.aft.length (rcells 3 (arrR T.aft da) T.aft.length)
  dm : ∀ k, k < T.aft.length → ∃ b, (da k).1 = some ⟨b, 0, none⟩ ∧ Reads wr (some ⟨b, 0, none⟩) (ag T.aft k).2.length (ints (ag T.aft k).2) ∧ bm + 1 ≤ b ∧ b < wr.heap.size ∧ v8.ownBlock ≠ some b ∧ (ag T.aft k).2.length ≤ (da k).2
  set : SetW wr bm T.aft.length (fun s => T.aft.any (fun x => x.1 == s))
  em : EmOwn wr (bm + 1) v8 v10 T.emp
  stk : ∀ x ∈ T.aft, StOk p x.1
  nd : (sts T.aft).Nodup
theorem EmOwn.to {W W' : World} {B1 : Nat} {v8 v10 : Value} {o : Option (List Int)} (h : EmOwn W B1 v8 v10 o) (hb : Below W.heap.size W W') : EmOwn W' B1 v8 v10 o := by
  cases o with
  | none => exact h
  | some e =>
    obtain ⟨b, c, h1, h2, h3, h4, h5, h6⟩ := h
    exact ⟨b, c, h1, h2, h3.to hb, h4, Nat.lt_of_lt_of_le h5 hb.size, h6⟩
theorem StpM.to {p : Plt} {bm : Nat} {T : Tks} {v8 v10 : Value} {da : Nat → Option Addr × Nat} {wr W' : World} (h : StpM p bm T v8 v10 da wr) (hb : Below wr.heap.size wr W') : StpM p bm T v8 v10 da W' :=
  ⟨owns_to h.own hb, fun k hk => by
    obtain ⟨b, h1, h2, h3, h4, h5, h6⟩ := h.dm k hk
    exact ⟨b, h1, h2.to hb, h3, Nat.lt_of_lt_of_le h4 hb.size, h5, h6⟩, h.set.to hb, h.em.to hb, h.stk, h.nd⟩
theorem StpM.start (p : Plt) (w : World) : StpM p w.heap.size ⟨[], none⟩ (.slice none 0 0) (.slice none 0 0) (fun _ => (none, 0)) (w.alloc (.map #[] 0)) :=
  ⟨⟨by simp [rcells], .inl ⟨rfl, rfl⟩⟩, fun k hk => by simp at hk, SetW.new w, rfl, fun x hx => by simp at hx, List.nodup_nil⟩
/-- New demands that empty the plant. -/
theorem StpM.empt {p : Plt} {bm : Nat} {T : Tks} {v8 v10 : Value} {da : Nat → Option Addr × Nat} {wr : World} (h : StpM p bm T v8 v10 da wr) {e : List Int} {b c : Nat} (hc : e.length ≤ c) (hr : Reads wr (some ⟨b, 0, none⟩) e.length (ints e)) (h1 : bm + 1 ≤ b) (h2 : b < wr.heap.size) (h3 : v8.ownBlock ≠ some b) :
    StpM p bm ⟨T.aft, some e⟩ v8 (.slice (some ⟨b, 0, none⟩) e.length c) da wr :=
  ⟨h.own, h.dm, h.set, ⟨b, c, rfl, hc, hr, h1, h2, h3⟩, h.stk, h.nd⟩
theorem rcells_cg {s : Nat} {f g : Nat → Nat → Value} {n : Nat} (h : ∀ k j, k < n → j < s → f k j = g k j) : rcells s f n = rcells s g n :=
  rcells_ext (rcells_len _ _ _) fun k j hk hj => by
    have hlt : k * s + j < n * s := by
      have : (k + 1) * s ≤ n * s := Nat.mul_le_mul_right _ hk
      rw [Nat.succ_mul] at this; omega
    rw [rcells_get hlt, recs_at hj, h k j hk hj]
def daS (da : Nat → Option Addr × Nat) (n b c : Nat) (k : Nat) : Option Addr × Nat := if k = n then (some ⟨b, 0, none⟩, c) else da k
theorem rcells_add {aft : List (OSt × List Int)} {da : Nat → Option Addr × Nat} {t : OSt} {dem : List Int} {b c : Nat} :
    rcells 3 (arrR aft da) aft.length ++ [.int .i64 t.1, .bool t.2, .slice (some ⟨b, 0, none⟩) dem.length c] = rcells 3 (arrR (aft ++ [(t, dem)]) (daS da aft.length b c)) (aft.length + 1) := by
  have hcg : rcells 3 (arrR aft da) aft.length = rcells 3 (arrR (aft ++ [(t, dem)]) (daS da aft.length b c)) aft.length := by
    refine rcells_cg fun k j hk _ => ?_
    have hk' : ¬ k = aft.length := by omega
    unfold arrR daS
    rw [ag_app1 hk]
    simp only [hk', if_false]
  rw [hcg]
  refine rcells_snoc 3 _ _ rfl (fun j hj => ?_)
  unfold arrR daS
  rw [ag_app2, if_pos rfl]
  match j, hj with
  | 0, _ => rfl
  | 1, _ => rfl
  | 2, _ => rfl
theorem EmOwn.moved {W W' : World} {B1 : Nat} {v8 v8' v10 : Value} {o : Option (List Int)} (h : EmOwn W B1 v8 v10 o) (hg : W.grownBy W' v8.ownBlock) (hw : v8'.ownBlock = v8.ownBlock ∨ v8'.ownBlock = some W.heap.size) : EmOwn W' B1 v8' v10 o := by
  cases o with
  | none => exact h
  | some e =>
    obtain ⟨b, c, h1, h2, h3, h4, h5, h6⟩ := h
    refine ⟨b, c, h1, h2, h3.grown hg (fun p e => by cases e; exact fun e => h6 e.symm), h4, Nat.lt_of_lt_of_le h5 hg.size, ?_⟩
    rcases hw with hw | hw
    · rw [hw]; exact h6
    · rw [hw]; intro e; injection e with e; omega
/-- One more state: put into the set (w1), and appended (w2). -/
theorem StpM.add {p : Plt} {bm : Nat} {T : Tks} {v8 v8' v10 : Value} {da : Nat → Option Addr × Nat} {wr w1 w2 : World} {t : OSt} {dem : List Int} {b c : Nat} (o : Obj) (h : StpM p bm T v8 v10 da wr)
    (hset : SetW w1 bm (T.aft.length + 1) (fun x => T.aft.any (fun y => y.1 == x) || x == t)) (hg1 : wr.grownBy w1 (some bm))
    (hown : w2.ownsRow (bm + 1) 209 3 v8' (T.aft.length + 1) (rcells 3 (arrR T.aft da) T.aft.length ++ [.int .i64 t.1, .bool t.2, .slice (some ⟨b, 0, none⟩) dem.length c])) (hg2 : (w1.alloc o).grownBy w2 v8.ownBlock) (hw : v8'.ownBlock = v8.ownBlock ∨ v8'.ownBlock = some (w1.alloc o).heap.size)
    (hc : dem.length ≤ c) (hr : Reads wr (some ⟨b, 0, none⟩) dem.length (ints dem)) (h1 : bm + 1 ≤ b) (h2 : b < wr.heap.size) (h3 : v8.ownBlock ≠ some b) (ht : StOk p t) (hnew : T.aft.any (fun y => y.1 == t) = false) :
    StpM p bm ⟨T.aft ++ [(t, dem)], T.emp⟩ v8' v10 (daS da T.aft.length b c) w2 := by
  have hlo := h.own.lt
  have hv8 : ∀ k, v8.ownBlock = some k → bm + 1 ≤ k ∧ k < wr.heap.size := hlo
  have hs1 := hg1.size
  have hne : ∀ k, v8'.ownBlock = some k → v8.ownBlock = some k ∨ wr.heap.size ≤ k := fun k hk => by
    rcases hw with hw | hw
    · left; rw [← hw]; exact hk
    · right; rw [hw] at hk; injection hk with hk; simp only [World.size_alloc] at hk; omega
  have hrd : ∀ {b' : Nat} {m : Nat} {f : Nat → Value}, Reads wr (some ⟨b', 0, none⟩) m f → b' ≠ bm → v8.ownBlock ≠ some b' → Reads w2 (some ⟨b', 0, none⟩) m f := fun hr hb1 hb2 =>
    ((hr.grown hg1 (fun p e => by cases e; intro e; injection e with e; exact hb1 e)).alloc o).grown hg2 (fun p e => by cases e; exact fun e => hb2 e.symm)
  have hsz : wr.heap.size ≤ w2.heap.size := by have := hg2.size; simp only [World.size_alloc] at this; omega
  have hbm : v8.ownBlock ≠ some bm := fun e => by have := (hv8 _ e).1; omega
  refine ⟨?_, fun k hk => ?_, ?_, ?_, fun x hx => ?_, ?_⟩
  · show w2.ownsRow (bm + 1) _ 3 v8' (T.aft ++ [(t, dem)]).length (rcells 3 (arrR (T.aft ++ [(t, dem)]) (daS da T.aft.length b c)) (T.aft ++ [(t, dem)]).length)
    rw [List.length_append, show [(t, dem)].length = 1 from rfl, ← rcells_add]
    exact hown
  · have hk' : k < T.aft.length + 1 := by simpa using hk
    by_cases hkn : k = T.aft.length
    · subst hkn
      refine ⟨b, by simp [daS], ?_, h1, by omega, fun e => ?_, ?_⟩
      · show Reads w2 _ (ag (T.aft ++ [(t, dem)]) T.aft.length).2.length (ints (ag (T.aft ++ [(t, dem)]) T.aft.length).2)
        rw [ag_app2]
        exact hrd hr (by omega) h3
      · rcases hne _ e with h | h
        · exact h3 h
        · omega
      · show (ag (T.aft ++ [(t, dem)]) T.aft.length).2.length ≤ _
        rw [ag_app2]
        simpa [daS] using hc
    · obtain ⟨b', k1, k2, k3, k4, k5, k6⟩ := h.dm k (by omega)
      have e1 : ag (T.aft ++ [(t, dem)]) k = ag T.aft k := ag_app1 (by omega)
      refine ⟨b', by simpa [daS, hkn] using k1, ?_, k3, by omega, fun e => ?_, ?_⟩
      · show Reads w2 _ (ag (T.aft ++ [(t, dem)]) k).2.length (ints (ag (T.aft ++ [(t, dem)]) k).2)
        rw [e1]
        exact hrd k2 (by omega) k5
      · rcases hne _ e with h | h
        · exact k5 h
        · omega
      · show (ag (T.aft ++ [(t, dem)]) k).2.length ≤ _
        rw [e1]
        simpa [daS, hkn] using k6
  · show SetW w2 bm (T.aft ++ [(t, dem)]).length _
    rw [List.length_append]
    refine (((hset.to (bAlloc (bSelf w1) o)).grown hg2 (fun e => hbm e.symm))).ext (fun s => ?_)
    rw [List.any_append]
    show _ = (_ || ((t == s) || false))
    rw [Bool.or_false]
    have : (s == t) = (t == s) := by rw [Bool.eq_iff_iff]; simp; exact ⟨fun e => e.symm, fun e => e.symm⟩
    rw [this]
  · have h5 : EmOwn (w1.alloc o) (bm + 1) v8 v10 T.emp := by
      have := h.em
      cases hT : T.emp with
      | none => rw [hT] at this; exact this
      | some e =>
        rw [hT] at this
        obtain ⟨b', c', k1, k2, k3, k4, k5, k6⟩ := this
        have hbb : b' ≠ bm := by omega
        have hls : b' < (w1.alloc o).heap.size := by rw [World.size_alloc]; omega
        exact ⟨b', c', k1, k2, (k3.grown hg1 (fun p e => by cases e; intro e; injection e with e; exact hbb e)).alloc o, k4, hls, k6⟩
    exact h5.moved hg2 hw
  · rcases List.mem_append.1 hx with hx | hx
    · exact h.stk x hx
    · simp only [List.mem_cons, List.not_mem_nil, or_false] at hx
      subst hx
      exact ht
  · show (sts (T.aft ++ [(t, dem)])).Nodup
    unfold sts
    rw [List.map_append, List.nodup_append]
    refine ⟨h.nd, by simp, fun a ha b' hb' e => ?_⟩
    simp only [List.map_cons, List.map_nil, List.mem_cons, List.not_mem_nil, or_false] at hb'
    have hat : a = t := e.trans hb'
    obtain ⟨y, hy, e⟩ := List.mem_map.1 ha
    have : T.aft.any (fun y => y.1 == t) = true := List.any_eq_true.2 ⟨y, hy, by simpa using e.trans hat⟩
    rw [hnew] at this
    cases this
/-- What is handed over. -/
theorem StpM.enc {p : Plt} {bm : Nat} {T : Tks} {v8 v10 : Value} {da : Nat → Option Addr × Nat} {wr : World} (h : StpM p bm T v8 v10 da wr) {M : Nat → Prop} (hM : ∀ k, M k → k < bm + 1) : TkEnc (T.aft, T.emp) #[v8, v10] M wr := by
  obtain ⟨a, c, rfl, hc, hr, hfr⟩ := Reads.of_row (f := arrF T.aft da) h.own (fun i hi => by rw [arrF_recs, rcells_get (by simpa using hi)])
  refine ⟨a, c, v10, da, rfl, hc, ⟨hr, fun k hk => ?_, fun q hq => ?_, fun k hk q hq => ?_, fun k hk => ?_⟩, ?_⟩
  · obtain ⟨b, k1, k2, -⟩ := h.dm k hk
    rw [k1]; exact k2
  · have := h.own.lt
    subst hq
    have h2 := hfr _ rfl
    refine ⟨fun hm => by have := hM _ hm; omega, ?_⟩
    by_cases h0 : T.aft.length = 0
    · rcases h.own.2 with ⟨e, _⟩ | ⟨g, cap', cur, e, hb, hg, hn, -⟩
      · cases e
      · cases e; exact (Array.getElem?_eq_some_iff.1 hg).1
    · obtain ⟨b, off, e, hb, -⟩ := hr.at (k := 0) (by omega)
      cases e; exact hb
  · obtain ⟨b, k1, k2, k3, k4, k5, k6⟩ := h.dm k hk
    rw [k1] at hq
    cases hq
    exact ⟨fun hm => by have := hM _ hm; dsimp only at this; omega, k4⟩
  · obtain ⟨b, k1, k2, k3, k4, k5, k6⟩ := h.dm k hk
    exact k6
  · have := h.em
    cases hT : T.emp with
    | none => rw [hT] at this; exact this
    | some e =>
      rw [hT] at this
      obtain ⟨b, c', k1, k2, k3, k4, k5, k6⟩ := this
      exact ⟨⟨b, 0, none⟩, c', k1, k2, k3, fun hm => by have := hM _ hm; dsimp only at this; omega, k5⟩
end
section
open Go.RowKit
attribute [local go_sem] Oper.semAt_some

section
variable {P : Program} {w : World}
/-- append onto a slice without room, inside a fence: a new row. -/
theorem wpListIn_grows {F : Fence} {d : Nat} {ops : Array Oper} {rest : List Oper} {o : Oper} {b : Act} {Q : Exit → Act → World → Prop} {t e : TypeId} {z : Value} {size bytes : Nat} (rt : RowTy P t e size bytes z)
    (hg : o.guard = none) (s x : Operand) (hop : o.op = Op.call { callee := Callee.builtin Builtin.append, args := #[s, x], argTypes := #[t, t] })
    (ao : Option Addr) (n cap : Nat) (olds : List Value) (hs : b.eval s = .slice ao n cap) (hnone : ao = none → n = 0 ∧ cap = 0) (hlo : olds.length = n * size) (holds : ∀ b, ao = some b → ∀ j u, olds[j]? = some u → w.cell? (b.add j) = some u)
    (ad : Addr) (m c : Nat) (news : List Value) (hx : b.eval x = .slice (some ad) m c) (hn : news.length = m * size) (hc : ∀ j u, news[j]? = some u → w.cell? (ad.add j) = some u) (h1c : ∀ u ∈ news, u.oneCell' = true)
    (hfull : cap < n + m) (b1 : n + m ≤ maxLen) (b2 : (n + m) * bytes ≤ 140737488355328)
    (hK : ∀ v' w', w'.ownsRow w.heap.size e size v' (n + m) (olds ++ news) → w.grownBy w' none → wpListIn F d P ops Q rest (b.put o.dst v') w') :
    wpListIn F d P ops Q (o :: rest) b w := by
  refine wpListIn_plain hg fun K hK' => ?_
  obtain ⟨i, h2, h3, h4, h5⟩ := rt.i
  unfold Oper.wpIn
  refine ⟨by simp [Oper.about, hop, resolve, Target.leads, Sem.run_pure], ?_⟩
  rw [Oper.semAt_plain F _ _ (by rw [hop]; intro c hc'; cases hc')]
  cases ao with
  | some b' =>
    obtain ⟨v', w', hrun, r1, r2⟩ := run_append_arg_grows (P := P) w t o.type e i z size bytes rt.u h2 h3 h4 h5 rt.zs rt.pos b' n cap olds hlo (holds b' rfl) ad m c news hn hc hfull b1 b2
    simp [execOp, hop, resolve, invoke, builtin, hs, hx, hrun, Result.andThen]
    exact hK' _ _ (hK v' w' r1 r2)
  | none =>
    obtain ⟨rfl, rfl⟩ := hnone rfl
    obtain rfl : olds = [] := List.eq_nil_of_length_eq_zero (by simpa using hlo)
    obtain ⟨v', w', hrun, r1, r2, _⟩ := run_append_own (P := P) w w.heap.size t o.type e i z size bytes rt.u h2 h3 h4 h5 rt.zs rt.pos (.slice none 0 0) 0 [] (World.ownsRow_nil w _ e size) ad m c news hn hc h1c b1 b2 (Nat.le_refl _)
    simp [execOp, hop, resolve, invoke, builtin, hs, hx, hrun, Result.andThen]
    exact hK' _ _ (hK v' w' r1 r2)
end

theorem ticks_any (p : Plt) (s : OSt) (a al ac : Option Addr) (cap cl n cc : Nat) (w : World) :
    Calls Tryz.prog 141 #[.agg (plL p a cap al cl), .agg #[.int .i64 s.1, .bool s.2], .slice ac n cc] w fun e w' => e = .returned (.func (.func 169) #[] #[.pointer (some ⟨w.heap.size + 1, 0, none⟩), .pointer (some ⟨w.heap.size + 1 + 1, 0, none⟩), .pointer (some ⟨w.heap.size, 0, none⟩)]) ∧
      ((w.alloc (.cells (plL p a cap al cl) 170)).alloc (.cells #[.int .i64 s.1, .bool s.2] 46)).alloc (.cells #[.slice ac n cc] 65) = w' := by
  go_enter Tryz.func141, Tryz.ntmps141
  go_wp2_with fail
  go_ret
  exact ⟨rfl, rfl⟩

/-- What the iterator reads. -/
structure TkF (p : Plt) (s : OSt) (cls : List (Int × Int)) (a al ac : Option Addr) (cap cl cc bs bc bp : Nat) (W : World) : Prop where
  S : Blk W bs #[.int .i64 s.1, .bool s.2]
  C : Blk W bc #[.slice ac cls.length cc]
  P : Blk W bp (plL p a cap al cl)
  RL : Reads W al (p.pts.length * 2) (fracs p.pts)
  RC : Reads W ac (cls.length * 2) (fracs cls)
def TkR (p : Plt) (cls : List (Int × Int)) (al ac : Option Addr) (bs bc bp : Nat) (k : Nat) : Prop :=
  k = bs ∨ k = bc ∨ k = bp ∨ (0 < cls.length ∧ ∃ off, ac = some ⟨k, off, none⟩) ∨ (0 < p.pts.length ∧ ∃ off, al = some ⟨k, off, none⟩)
theorem TkF.to {p : Plt} {s : OSt} {cls : List (Int × Int)} {a al ac : Option Addr} {cap cl cc bs bc bp : Nat} {W W' : World} (h : TkF p s cls a al ac cap cl cc bs bc bp W) (hb : Below W.heap.size W W') : TkF p s cls a al ac cap cl cc bs bc bp W' :=
  ⟨h.S.to hb, h.C.to hb, h.P.to hb, h.RL.to hb, h.RC.to hb⟩
theorem TkF.lt {p : Plt} {s : OSt} {cls : List (Int × Int)} {a al ac : Option Addr} {cap cl cc bs bc bp : Nat} {W : World} (h : TkF p s cls a al ac cap cl cc bs bc bp W) {k : Nat} (hk : TkR p cls al ac bs bc bp k) : k < W.heap.size := by
  rcases hk with rfl | rfl | rfl | ⟨h0, off, rfl⟩ | ⟨h0, off, rfl⟩
  · exact h.S.1
  · exact h.C.1
  · exact h.P.1
  · obtain ⟨b, o, e, hb, -⟩ := h.RC.at (k := 0) (by omega)
    cases e; exact hb
  · obtain ⟨b, o, e, hb, -⟩ := h.RL.at (k := 0) (by omega)
    cases e; exact hb
theorem TkF.upd {p : Plt} {s : OSt} {cls : List (Int × Int)} {a al ac : Option Addr} {cap cl cc bs bc bp : Nat} {W W' : World} {M M' : Nat → Prop} (h : TkF p s cls a al ac cap cl cc bs bc bp W) (hu : Upd M M' W W') (hM : ∀ k, M k → ¬ TkR p cls al ac bs bc bp k) : TkF p s cls a al ac cap cl cc bs bc bp W' := by
  have key : ∀ {q : Option Addr} {m : Nat} {f : Nat → Value}, (0 < m → ∀ b off, q = some ⟨b, off, none⟩ → TkR p cls al ac bs bc bp b) → Reads W q m f → Reads W' q m f := fun hq hr => by
    rcases hr with hr | ⟨b, off, ha, hlt, hc⟩
    · exact .inl hr
    · rename_i q m f
      by_cases hm : m = 0
      · exact .inl hm
      · exact Reads.upd (.inr ⟨b, off, ha, hlt, hc⟩) hu (fun b' off' e hk => hM _ hk (hq (by omega) b' off' e))
  exact ⟨h.S.upd hu (fun hk => hM _ hk (.inl rfl)), h.C.upd hu (fun hk => hM _ hk (.inr (.inl rfl))), h.P.upd hu (fun hk => hM _ hk (.inr (.inr (.inl rfl)))),
    key (fun hm b off e => .inr (.inr (.inr (.inr ⟨by omega, off, e⟩)))) h.RL, key (fun hm b off e => .inr (.inr (.inr (.inl ⟨by omega, off, e⟩)))) h.RC⟩

/-- One demand, case by case. -/
theorem tkD_no {p : Plt} {a : OSt × List Int} {T : Tks} {n : Int} (h : nxtA p a.1 n = none) (he : T.emp = none) : tkD p a T n = ⟨T.aft, some (a.2 ++ [n])⟩ := by
  unfold tkD; rw [h, he]
theorem tkD_no2 {p : Plt} {a : OSt × List Int} {T : Tks} {n : Int} {e : List Int} (h : nxtA p a.1 n = none) (he : T.emp = some e) : tkD p a T n = T := by
  unfold tkD; rw [h, he]; obtain ⟨x, y⟩ := T; dsimp only at he ⊢; rw [he]
theorem tkD_old {p : Plt} {a : OSt × List Int} {T : Tks} {n : Int} {t : OSt} (h : nxtA p a.1 n = some t) (hk : T.aft.any (fun x => x.1 == t) = true) : tkD p a T n = T := by
  unfold tkD; rw [h]; dsimp only; rw [if_pos hk]
theorem tkD_new {p : Plt} {a : OSt × List Int} {T : Tks} {n : Int} {t : OSt} (h : nxtA p a.1 n = some t) (hk : T.aft.any (fun x => x.1 == t) = false) : tkD p a T n = ⟨T.aft ++ [(t, a.2 ++ [n])], T.emp⟩ := by
  unfold tkD; rw [h]; dsimp only; rw [if_neg (by rw [hk]; simp)]
theorem rngL_len (r : Int × Int) : (rngL r).length = (r.2 - r.1 + 1).toNat := by unfold rngL; simp
theorem rngL_take {r : Int × Int} {i : Nat} (h : i < (rngL r).length) : (rngL r).take (i + 1) = (rngL r).take i ++ [r.1 + (i : Int)] := by
  have e : (rngL r)[i] = r.1 + (i : Int) := by simp only [rngL, List.getElem_map, List.getElem_range]
  rw [List.take_succ_eq_append_getElem h, e]
theorem fold_take {p : Plt} {r : Int × Int} {a : OSt × List Int} {T0 : Tks} {i : Nat} (h : i < (rngL r).length) : ((rngL r).take (i + 1)).foldl (tkD p a) T0 = tkD p a (((rngL r).take i).foldl (tkD p a) T0) (r.1 + (i : Int)) := by
  rw [rngL_take h, List.foldl_append]; rfl
theorem fold_now {p : Plt} {r : Int × Int} {now : List (OSt × List Int)} {j : Nat} (h : j < now.length) : (now.take (j + 1)).foldl (tkR p r) ⟨[], none⟩ = (rngL r).foldl (tkD p (ag now j)) ((now.take j).foldl (tkR p r) ⟨[], none⟩) := by
  rw [List.take_succ_eq_append_getElem h, List.foldl_append, ag_lt h]; rfl
end
end Go.Proofs.YtjfedpblkejmkaaGreat
