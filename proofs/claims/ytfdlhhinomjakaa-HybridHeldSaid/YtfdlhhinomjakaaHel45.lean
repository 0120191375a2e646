/-
  Texts of this claim, in their build order: BL1.
-/
import Derived.Test.YtfdlhhinomjakaaHel40
import Derived.Test.YtfdlhhinomjakaaHel44
import Derived.Test.YtfdlhhinomjakaaHel33
import Derived.Test.YtfdlhhinomjakaaHel32

namespace Go.Proofs.Ytfdlhhinomjakaa
section
open Go.RowKit

/-- A reached state. -/
structure InX (x : HT) (z : List Int) : Prop where
  len : z.length = 4
  bd : ∀ i, i < 4 → -x.b ≤ gi z i ∧ gi z i ≤ x.b
  zr : ∀ i : Nat, i < 4 → x.dl + 2 ≤ (i : Int) → gi z i = 0
theorem InX.zero {x : HT} (hx : x.ok) : InX x [0, 0, 0, 0] := by
  have := hx.b1
  refine ⟨rfl, fun i hi => ?_, fun i hi _ => ?_⟩
  · match i, hi with
    | 0, _ => exact ⟨by show -x.b ≤ 0; omega, by show 0 ≤ x.b; omega⟩
    | 1, _ => exact ⟨by show -x.b ≤ 0; omega, by show 0 ≤ x.b; omega⟩
    | 2, _ => exact ⟨by show -x.b ≤ 0; omega, by show 0 ≤ x.b; omega⟩
    | 3, _ => exact ⟨by show -x.b ≤ 0; omega, by show 0 ≤ x.b; omega⟩
  · match i, hi with
    | 0, _ => rfl
    | 1, _ => rfl
    | 2, _ => rfl
    | 3, _ => rfl
theorem inB_iff {x : HT} {n : Int} : inB x n = true ↔ -x.b ≤ n ∧ n ≤ x.b := by unfold inB; simp
theorem kp_in {x : HT} {j v : Int} (hx : x.ok) (h : -x.b ≤ v ∧ v ≤ x.b) : -x.b ≤ kp x j v ∧ kp x j v ≤ x.b := by
  have := hx.b1
  unfold kp
  split
  · exact h
  · omega
theorem InX.next {x : HT} {z : List Int} {n : Int} (hx : x.ok) (h : InX x z) (hn : inB x n = true) : InX x (nextL x z n) := by
  refine ⟨rfl, fun i hi => ?_, fun i hi hd => ?_⟩
  · match i, hi with
    | 0, _ => exact inB_iff.1 hn
    | 1, _ => exact h.bd 0 (by omega)
    | 2, _ => exact kp_in hx (h.bd 1 (by omega))
    | 3, _ => exact kp_in hx (h.bd 2 (by omega))
  · have := hx.dl1
    match i, hi, hd with
    | 0, _, hd => omega
    | 1, _, hd => omega
    | 2, _, hd => show kp x 1 (gi z 1) = 0; unfold kp; rw [if_neg (by omega)]
    | 3, _, hd => show kp x 2 (gi z 2) = 0; unfold kp; rw [if_neg (by omega)]
theorem InX.sth {x : HT} {z : List Int} (hx : x.ok) (h : InX x z) : StH z := ⟨h.len, fun i hi => by
  have := h.bd i hi; have := hx.b2; omega⟩
theorem nxH_some {x : HT} {s t : List Int} {f : Int} (h : nxH x s f = some t) : inB x (nextV x s f) = true ∧ t = nextL x s (nextV x s f) := by
  unfold nxH at h
  split at h
  · rename_i hb; cases h; exact ⟨hb, rfl⟩
  · cases h
theorem nxH_none {x : HT} {s : List Int} {f : Int} (h : nxH x s f = none) : inB x (nextV x s f) = false := by
  unfold nxH at h
  split at h
  · cases h
  · rename_i hb; simpa using hb
theorem goW_in {x : HT} (hx : x.ok) : ∀ (es : List Int) (s t : List Int), InX x s → goW (nxH x) s es = some t → InX x t
  | [], s, t, h, ht => by
    have ht : some s = some t := ht
    cases ht
    exact h
  | f :: es, s, t, h, ht => by
    have ht : (nxH x s f).bind (fun u => goW (nxH x) u es) = some t := ht
    cases e : nxH x s f with
    | none => rw [e] at ht; cases ht
    | some u =>
      rw [e] at ht
      obtain ⟨h1, h2⟩ := nxH_some e
      exact goW_in hx es u t (h2 ▸ h.next hx h1) ht
theorem gi_tk {z : List Int} {m i : Nat} (h : i < m) : gi (z.take m) i = gi z i := by
  unfold gi; rw [List.getD_eq_getElem?_getD, List.getD_eq_getElem?_getD, List.getElem?_take_of_lt h]
theorem InX.four {x : HT} {z : List Int} (h : InX x z) : ∃ a b c d, z = [a, b, c, d] := by
  match z, h.len with
  | [a, b, c, d], _ => exact ⟨a, b, c, d, rfl⟩
theorem InX.pf {x : HT} {z : List Int} (h : InX x z) {m : Nat} (hm : x.dl + 2 = (m : Int)) (hm2 : m = 2 ∨ m = 3 ∨ m = 4) : p4 (z.take m) = z := by
  obtain ⟨a, b, c, d, rfl⟩ := h.four
  rcases hm2 with rfl | rfl | rfl
  · have h2 : c = 0 := h.zr 2 (by omega) (by omega)
    have h3 : d = 0 := h.zr 3 (by omega) (by omega)
    rw [h2, h3]; rfl
  · have h3 : d = 0 := h.zr 3 (by omega) (by omega)
    rw [h3]; rfl
  · rfl
theorem InX.tl {x : HT} {z : List Int} (h : InX x z) {m : Nat} (hm2 : m = 2 ∨ m = 3 ∨ m = 4) : (z.take m).length = m := by
  rw [List.length_take, h.len]; omega
theorem InX.stE0 {x : HT} {z : List Int} (h : InX x z) {m : Nat} (hm : x.dl + 2 = (m : Int)) (hm2 : m = 2 ∨ m = 3 ∨ m = 4) : stateE x (z.take m) = 0 := by
  have hl := h.tl hm2
  rw [stateE_eq (by rw [hl, hm])]
  rw [eachR_all]
  intro j _ hj
  rw [hl] at hj
  have := h.bd j (by omega)
  unfold stE stB
  rw [gi_tk (by omega), decide_eq_true this.1, decide_eq_true this.2]
  rfl
theorem cmp_tail {l m t : List Int} (h : l.length = m.length) : cmpL (l ++ t) (m ++ t) = cmpL l m := by
  rw [cmpL_app h, cmpL_self]
  split
  · rename_i e; rw [e]
  · rfl
theorem InX.cmp {x : HT} {y z : List Int} (h : InX x y) (h' : InX x z) {m : Nat} (hm : x.dl + 2 = (m : Int)) (hm2 : m = 2 ∨ m = 3 ∨ m = 4) : cmpL (y.take m) (z.take m) = cmpL y z := by
  obtain ⟨a, b, c, d, rfl⟩ := h.four
  obtain ⟨a', b', c', d', rfl⟩ := h'.four
  rcases hm2 with rfl | rfl | rfl
  · have h2 : c = 0 := h.zr 2 (by omega) (by omega)
    have h3 : d = 0 := h.zr 3 (by omega) (by omega)
    have h4 : c' = 0 := h'.zr 2 (by omega) (by omega)
    have h5 : d' = 0 := h'.zr 3 (by omega) (by omega)
    rw [h2, h3, h4, h5]
    exact (cmp_tail (l := [a, b]) (m := [a', b']) (t := [0, 0]) rfl).symm
  · have h3 : d = 0 := h.zr 3 (by omega) (by omega)
    have h5 : d' = 0 := h'.zr 3 (by omega) (by omega)
    rw [h3, h5]
    exact (cmp_tail (l := [a, b, c]) (m := [a', b', c']) (t := [0]) rfl).symm
  · rfl
theorem InX.nv {x : HT} {z : List Int} {m : Nat} (hx : x.ok) (hm : x.dl + 2 = (m : Int)) (f : Int) : nextV x (z.take m) f = nextV x z f := by
  have h1 := hx.dl1
  have h2 := hx.dl2
  have e0 := gi_tk (z := z) (m := m) (i := 0) (by omega)
  have e1 := gi_tk (z := z) (m := m) (i := 1) (by omega)
  have e2 := gi_tk (z := z) (m := m) (i := x.dl.toNat) (by omega)
  have e3 := gi_tk (z := z) (m := m) (i := x.dl.toNat + 1) (by omega)
  unfold nextV pushV cmdV
  rw [e0, e1, e2, e3]
theorem InX.nr {x : HT} {z : List Int} (h : InX x z) {m : Nat} (hm : x.dl + 2 = (m : Int)) (hm2 : m = 2 ∨ m = 3 ∨ m = 4) (n : Int) : nextR (z.take m) n = (nextL x z n).take m := by
  obtain ⟨a, b, c, d, rfl⟩ := h.four
  rcases hm2 with rfl | rfl | rfl
  · rfl
  · have : kp x 1 b = b := by unfold kp; rw [if_pos (by omega)]
    show [n, a, b] = [n, a, kp x 1 b]
    rw [this]
  · have h1 : kp x 1 b = b := by unfold kp; rw [if_pos (by omega)]
    have h2 : kp x 2 c = c := by unfold kp; rw [if_pos (by omega)]
    show [n, a, b, c] = [n, a, kp x 1 b, kp x 2 c]
    rw [h1, h2]
/-- The next state in the bound, or not. -/
theorem nof_in {x : HT} {z : List Int} (hx : x.ok) (hT : testE x = 0) (h : InX x z) {m : Nat} (hm : x.dl + 2 = (m : Int)) (hm2 : m = 2 ∨ m = 3 ∨ m = 4) {f : Int} (hf : x.lo ≤ f ∧ f ≤ x.hi) {t : List Int} (ht : nxH x z f = some t) : nofAll x (z.take m) f = 0 ∧ nofZ x (z.take m) f = t.take m := by
  obtain ⟨h1, h2⟩ := nxH_some ht
  have hc : checkE x (z.take m) = 0 := by unfold checkE; rw [if_pos hT]; exact h.stE0 hm hm2
  have he : nextE x (z.take m) f = 0 := by
    unfold nextE inF
    rw [InX.nv hx hm, h1, decide_eq_true hf.1, decide_eq_true hf.2]
    rfl
  unfold nofAll nofZ nextZ
  rw [if_pos hc, if_pos hc, if_pos he, he, InX.nv hx hm, h.nr hm hm2, h2]
  exact ⟨rfl, rfl⟩
theorem nof_out {x : HT} {z : List Int} (hx : x.ok) (hT : testE x = 0) (h : InX x z) {m : Nat} (hm : x.dl + 2 = (m : Int)) (hm2 : m = 2 ∨ m = 3 ∨ m = 4) {f : Int} (hf : x.lo ≤ f ∧ f ≤ x.hi) (ht : nxH x z f = none) : nofAll x (z.take m) f = 22 ∧ nofZ x (z.take m) f = [] := by
  have h1 := nxH_none ht
  have hc : checkE x (z.take m) = 0 := by unfold checkE; rw [if_pos hT]; exact h.stE0 hm hm2
  have he : nextE x (z.take m) f = 22 := by
    unfold nextE inF
    rw [InX.nv hx hm, h1, decide_eq_true hf.1, decide_eq_true hf.2]
    rfl
  unfold nofAll nofZ nextZ
  rw [if_pos hc, if_pos hc, he, if_neg (by decide)]
  exact ⟨rfl, rfl⟩

/-- What is known of all reached states. -/
structure AllR (x : HT) (l : List (List Int)) : Prop where
  srt : SrtH l
  mem : ∀ t, t ∈ l ↔ ∃ es, (∀ f ∈ es, f ∈ rngL (x.lo, x.hi)) ∧ goW (nxH x) [0, 0, 0, 0] es = some t
theorem AllR.inx {x : HT} {l : List (List Int)} (hx : x.ok) (h : AllR x l) {t : List Int} (ht : t ∈ l) : InX x t := by
  obtain ⟨es, -, he⟩ := (h.mem t).1 ht
  exact goW_in hx es _ t (InX.zero hx) he
theorem AllR.zero {x : HT} {l : List (List Int)} (h : AllR x l) : [0, 0, 0, 0] ∈ l := (h.mem _).2 ⟨[], fun f hf => (by cases hf), rfl⟩
theorem AllR.next {x : HT} {l : List (List Int)} (h : AllR x l) {t u : List Int} {f : Int} (ht : t ∈ l) (hf : f ∈ rngL (x.lo, x.hi)) (hu : nxH x t f = some u) : u ∈ l := by
  obtain ⟨es, h1, h2⟩ := (h.mem t).1 ht
  refine (h.mem u).2 ⟨es ++ [f], fun g hg => ?_, by rw [goW_snoc, h2]; exact hu⟩
  rcases List.mem_append.1 hg with hg | hg
  · exact h1 g hg
  · have : g = f := by simpa using hg
    subst this; exact hf
theorem AllR.map {x : HT} {l : List (List Int)} (hx : x.ok) (h : AllR x l) {m : Nat} (hm : x.dl + 2 = (m : Int)) (hm2 : m = 2 ∨ m = 3 ∨ m = 4) : (l.map fun z => z.take m).map p4 = l := by
  rw [List.map_map]
  have : l.map (p4 ∘ fun z => z.take m) = l.map id := List.map_congr_left fun z hz => (h.inx hx hz).pf hm hm2
  rw [this, List.map_id]
theorem ll_map {l : List (List Int)} {g : List Int → List Int} {k : Nat} (h : k < l.length) : ll (l.map g) k = g l[k] := by
  rw [ll_lt (by rw [List.length_map]; exact h), List.getElem_map]
theorem AllR.one {x : HT} {l : List (List Int)} (hx : x.ok) (h : AllR x l) {m : Nat} (hm : x.dl + 2 = (m : Int)) (hm2 : m = 2 ∨ m = 3 ∨ m = 4) (k : Nat) : p4 (ll (l.map fun z => z.take m) k) ∈ l := by
  by_cases hk : k < l.length
  · rw [ll_map hk, (h.inx hx (List.getElem_mem hk)).pf hm hm2]
    exact List.getElem_mem hk
  · have : ll (l.map fun z => z.take m) k = [] := by
      unfold ll; rw [List.getD_eq_getElem?_getD, List.getElem?_eq_none (by rw [List.length_map]; omega)]; rfl
    rw [this]
    exact h.zero
theorem AllR.cr {x : HT} {l : List (List Int)} (hx : x.ok) (h : AllR x l) {m : Nat} (hm : x.dl + 2 = (m : Int)) (hm2 : m = 2 ∨ m = 3 ∨ m = 4) :
    clsR x (l.map fun z => z.take m) = eachR (fun k => clsQ x l (p4 (ll (l.map fun z => z.take m) k)) (rngL (x.lo, x.hi))) 0 (l.map fun z => z.take m).length := by
  have h1 : (eachR (clE x (l.map fun z => z.take m)) 0 (l.map fun z => z.take m).length).2 = 0 := by
    rw [eachR_all]
    intro j _ hj
    rw [List.length_map, Nat.zero_add] at hj
    have hi := h.inx hx (List.getElem_mem hj)
    unfold clE
    rw [ll_map hj, hi.stE0 hm hm2]
    have : (decide (j = 0) || decide (cmpL (ll (l.map fun z => z.take m) (j - 1)) (l[j].take m) < 0)) = true := by
      by_cases h0 : j = 0
      · simp [h0]
      · have hj1 : j - 1 < l.length := by omega
        have := List.pairwise_iff_getElem.1 h.srt (j - 1) j hj1 hj (by omega)
        rw [ll_map hj1, (h.inx hx (List.getElem_mem hj1)).cmp hi hm hm2, decide_eq_true this, Bool.or_true]
    rw [this]
    rfl
  unfold clsR
  rw [if_neg (fun e => e h1), h.map hx hm hm2, if_pos h.zero]
theorem AllR.cq {x : HT} {l : List (List Int)} (h : AllR x l) {t : List Int} (ht : t ∈ l) : clsQ x l t (rngL (x.lo, x.hi)) = if (rngL (x.lo, x.hi)).all (fun f => inB x (nextV x t f)) then 0 else 22 := by
  unfold clsQ
  split
  · rename_i hall
    unfold opnQ
    rw [if_pos]
    refine List.all_eq_true.2 fun f hf => decide_eq_true ?_
    refine h.next ht hf ?_
    unfold nxH
    rw [if_pos (List.all_eq_true.1 hall f hf)]
  · rfl
theorem cls_held {x : HT} {l : List (List Int)} (hx : x.ok) (h : AllR x l) {m : Nat} (hm : x.dl + 2 = (m : Int)) (hm2 : m = 2 ∨ m = 3 ∨ m = 4) (hh : HldQ (nxH x) (rngL (x.lo, x.hi)) [0, 0, 0, 0]) : clsR x (l.map fun z => z.take m) = (0, 0) := by
  rw [h.cr hx hm hm2, eachR_all]
  intro j _ _
  have ht := h.one hx hm hm2 j
  rw [h.cq ht, if_pos]
  refine List.all_eq_true.2 fun f hf => ?_
  obtain ⟨es, h1, h2⟩ := (h.mem _).1 ht
  cases e : inB x (nextV x (p4 (ll (l.map fun z => z.take m) j)) f) with
  | true => rfl
  | false =>
    refine (hh (es ++ [f]) (fun g hg => ?_) ?_).elim
    · rcases List.mem_append.1 hg with hg | hg
      · exact h1 g hg
      · have : g = f := by simpa using hg
        subst this; exact hf
    · rw [goW_snoc, h2]
      show nxH x _ f = none
      unfold nxH
      rw [e]; rfl
theorem cls_brk {x : HT} {l : List (List Int)} (hx : x.ok) (h : AllR x l) {m : Nat} (hm : x.dl + 2 = (m : Int)) (hm2 : m = 2 ∨ m = 3 ∨ m = 4) {ws : List Int} (ho : OutW (nxH x) (rngL (x.lo, x.hi)) [0, 0, 0, 0] ws) : (clsR x (l.map fun z => z.take m)).2 = 22 := by
  rw [h.cr hx hm hm2]
  obtain ⟨es, f, t, rfl, hes, hn⟩ := ho.way
  have ht : t ∈ l := (h.mem t).2 ⟨es, fun g hg => ho.all g (List.mem_append_left _ hg), hes⟩
  refine eachR_val (fun k => ?_) _ _ ?_
  · rw [h.cq (h.one hx hm hm2 k)]
    split
    · exact .inl rfl
    · exact .inr rfl
  · obtain ⟨k, hk, e⟩ := List.mem_iff_getElem.1 ht
    refine ⟨k, Nat.zero_le _, by rw [List.length_map, Nat.zero_add]; exact hk, ?_⟩
    rw [ll_map hk, (h.inx hx (List.getElem_mem hk)).pf hm hm2, e, h.cq ht, if_neg]
    · decide
    · intro hall
      have := List.all_eq_true.1 hall f (ho.all f (by simp))
      rw [nxH_none hn] at this
      cases this

/-- The steps of a way out. -/
theorem steps_law {x : HT} {f : Int} : ∀ (es : List Int) (s t : List Int), goW (nxH x) s es = some t → nxH x t f = none →
    (stepsL x s (es ++ [f])).length = es.length + 1 ∧ (∀ i (_ : i < es.length) (h2 : i < (stepsL x s (es ++ [f])).length), inB x (gi (stepsL x s (es ++ [f]))[i].2 0) = true) ∧ ∀ (h2 : es.length < (stepsL x s (es ++ [f])).length), gi (stepsL x s (es ++ [f]))[es.length].2 0 = nextV x t f
  | [], s, t, ht, hn => by
    have ht : some s = some t := ht
    cases ht
    have e : stepsL x s ([] ++ [f]) = [(s, nextL x s (nextV x s f))] := by
      show (s, nextL x s (nextV x s f)) :: (if inB x (nextV x s f) then stepsL x _ [] else []) = _
      rw [nxH_none hn]; rfl
    rw [e]
    exact ⟨rfl, fun i h => (by simp at h), fun _ => rfl⟩
  | d :: es, s, t, ht, hn => by
    have ht : (nxH x s d).bind (fun u => goW (nxH x) u es) = some t := ht
    cases e : nxH x s d with
    | none => rw [e] at ht; cases ht
    | some u =>
      rw [e] at ht
      obtain ⟨h1, h2⟩ := nxH_some e
      obtain ⟨r1, r2, r3⟩ := steps_law es u t ht hn
      have e2 : stepsL x s (d :: es ++ [f]) = (s, u) :: stepsL x u (es ++ [f]) := by
        show (s, nextL x s (nextV x s d)) :: (if inB x (nextV x s d) then stepsL x (nextL x s (nextV x s d)) (es ++ [f]) else []) = _
        rw [if_pos h1, ← h2]
      refine ⟨by rw [e2, List.length_cons, r1]; rfl, fun i hi hi2 => ?_, fun hi2 => ?_⟩
      · simp only [e2]
        match i, hi with
        | 0, _ =>
          show inB x (gi u 0) = true
          rw [h2]
          exact h1
        | i + 1, hi =>
          simp only [List.getElem_cons_succ]
          exact r2 i (by simpa using hi) (by rw [r1]; simp at hi; omega)
      · simp only [e2, List.length_cons, List.getElem_cons_succ]
        exact r3 (by rw [r1]; omega)
/-- The run of a way out: its last displacement is beyond the bound, the others are not. -/
structure RunB (x : HT) (n : Nat) (r : List Int) : Prop where
  len : r.length = n + 1
  bd : ∀ i, i < n → -x.b ≤ gi r i ∧ gi r i ≤ x.b
  out : gi r n < -x.b ∨ x.b < gi r n
  sm : -200000 ≤ gi r n ∧ gi r n ≤ 200000
theorem run_out {x : HT} (hx : x.ok) {ws : List Int} (ho : OutW (nxH x) (rngL (x.lo, x.hi)) [0, 0, 0, 0] ws) (hf : ∀ f ∈ rngL (x.lo, x.hi), -1000 ≤ f ∧ f ≤ 1000) : RunB x ws.length (runL x ws) := by
  obtain ⟨es, f, t, rfl, hes, hn⟩ := ho.way
  obtain ⟨h1, h2, h3⟩ := steps_law es _ t hes hn
  have hff := hf f (ho.all f (by simp))
  have hb := nextH_bd hx ((goW_in hx es _ t (InX.zero hx) hes).sth hx) hff.1 hff.2
  have hbn := nxH_none hn
  have hb1 := hx.b1
  obtain ⟨st, hst⟩ : ∃ q, stepsL x [0, 0, 0, 0] (es ++ [f]) = q := ⟨_, rfl⟩
  have hr : runL x (es ++ [f]) = 0 :: st.map fun s => gi s.2 0 := by unfold runL; rw [hst]
  simp only [hst] at h1 h2 h3
  have hl : (es ++ [f]).length = es.length + 1 := by simp
  have hg : ∀ i (h : i < st.length), gi (0 :: st.map fun s => gi s.2 0) (i + 1) = gi st[i].2 0 := fun i h => by
    rw [gi_lt (by rw [List.length_cons, List.length_map]; omega), List.getElem_cons_succ, List.getElem_map]
  rw [hr, hl]
  have hlast : gi (0 :: st.map fun s => gi s.2 0) (es.length + 1) = nextV x t f := by rw [hg _ (by omega)]; exact h3 (by omega)
  refine ⟨by rw [List.length_cons, List.length_map, h1], fun i hi => ?_, ?_, ?_⟩
  · match i, hi with
    | 0, _ => exact ⟨by show -x.b ≤ 0; omega, by show 0 ≤ x.b; omega⟩
    | i + 1, hi =>
      rw [hg i (by omega)]
      exact inB_iff.1 (h2 i (by omega) (by omega))
  · rw [hlast]
    by_cases h4 : nextV x t f < -x.b
    · exact .inl h4
    · by_cases h5 : x.b < nextV x t f
      · exact .inr h5
      · have := inB_iff.2 (show -x.b ≤ nextV x t f ∧ nextV x t f ≤ x.b by omega)
        rw [this] at hbn; cases hbn
  · rw [hlast]; exact hb
theorem rng_bd {x : HT} (hx : x.ok) : ∀ f ∈ rngL (x.lo, x.hi), -1000 ≤ f ∧ f ≤ 1000 := fun f hf => by
  have h1 := rngL_mem.1 hf
  have := hx.lo1
  have := hx.hi2
  dsimp only at h1
  omega
/-- With fewer forces, and with a wider bound. -/
def fewX (x : HT) : HT := { x with hi := x.lo + (x.hi - x.lo) / 2 }
def widX (x : HT) : HT := { x with b := min 3 (x.b + 1) }
theorem fewX_ok {x : HT} (h : x.ok) : (fewX x).ok := by
  have h1 := h.lo1; have h2 := h.hi2; have h3 := h.ord; have h4 := h.few
  exact ⟨h.m1, h.m2, h.d1, h.d2, h.c1, h.c2, h.s1, h.s2, h.dl1, h.dl2, h.b1, h.b2, h.lo1, h.lo2, by show -1000 ≤ x.lo + (x.hi - x.lo) / 2; omega, by show x.lo + (x.hi - x.lo) / 2 ≤ 1000; omega, by show x.lo ≤ x.lo + (x.hi - x.lo) / 2; omega, by show x.lo + (x.hi - x.lo) / 2 - x.lo < 9; omega⟩
theorem widX_ok {x : HT} (h : x.ok) : (widX x).ok := by
  have h1 := h.b1; have h2 := h.b2
  exact ⟨h.m1, h.m2, h.d1, h.d2, h.c1, h.c2, h.s1, h.s2, h.dl1, h.dl2, by show 0 ≤ min 3 (x.b + 1); omega, by show min 3 (x.b + 1) ≤ 3; omega, h.lo1, h.lo2, h.hi1, h.hi2, h.ord, h.few⟩
theorem fewX_held {x : HT} (hx : x.ok) (h : HldQ (nxH x) (rngL (x.lo, x.hi)) [0, 0, 0, 0]) : HldQ (nxH (fewX x)) (rngL ((fewX x).lo, (fewX x).hi)) [0, 0, 0, 0] := by
  have h3 := hx.ord
  have e : nxH (fewX x) = nxH x := rfl
  rw [e]
  refine h.sub fun f hf => ?_
  have h1 := rngL_mem.1 hf
  refine rngL_mem.2 ?_
  have e1 : (fewX x).lo = x.lo := rfl
  have e2 : (fewX x).hi = x.lo + (x.hi - x.lo) / 2 := rfl
  dsimp only at h1 ⊢
  omega
theorem widX_held {x : HT} (hx : x.ok) (h : HldQ (nxH x) (rngL (x.lo, x.hi)) [0, 0, 0, 0]) : HldQ (nxH (widX x)) (rngL ((widX x).lo, (widX x).hi)) [0, 0, 0, 0] := by
  have h1 := hx.b1
  have h2 := hx.b2
  refine HldQ.wide h fun s f t ht => ?_
  obtain ⟨e1, e2⟩ := nxH_some ht
  have hb := inB_iff.1 e1
  have hw : inB (widX x) (nextV x s f) = true := inB_iff.2 (by
    have e : (widX x).b = min 3 (x.b + 1) := rfl
    rw [e]; omega)
  have e3 : nxH (widX x) s f = if inB (widX x) (nextV x s f) then some (nextL x s (nextV x s f)) else none := rfl
  rw [e3, if_pos hw, e2]
/-- A way that leads out is no less than the one that is handed back. -/
theorem out_least {x : HT} {ws fs : List Int} (ho : OutW (nxH x) (rngL (x.lo, x.hi)) [0, 0, 0, 0] ws) {i : Nat} (hi : i < fs.length) (hf : ∀ f ∈ fs, f ∈ rngL (x.lo, x.hi)) {t : List Int} (ht : goW (nxH x) [0, 0, 0, 0] (fs.take i) = some t) (hn : nxH x t (gi fs i) = none) :
    ws.length ≤ i + 1 ∧ (ws.length < i + 1 ∨ ¬ cmpL (fs.take (i + 1)) ws < 0) := by
  have h1 := ho.least (fs.take i) (gi fs i) t (fun f hf' => hf f (List.mem_of_mem_take hf')) (hf _ (by rw [gi_lt hi]; exact List.getElem_mem hi)) ht hn
  rw [← gi_take fs i hi] at h1
  have h2 := cmpW_len h1
  have hl : (fs.take (i + 1)).length = i + 1 := by rw [List.length_take]; omega
  rw [hl] at h2
  refine ⟨h2, ?_⟩
  by_cases h3 : ws.length < i + 1
  · exact .inl h3
  · refine .inr ?_
    unfold cmpW at h1
    rw [if_neg (by omega), if_neg (by omega)] at h1
    have h4 := cmpL_swap ws (fs.take (i + 1))
    omega
end
end Go.Proofs.Ytfdlhhinomjakaa
