/-
  Texts of this claim, in their build order: BQ2 BQ3.
-/
import Derived.Test.YtfdlhhinomjakaaHel30

namespace Go.Proofs.Ytfdlhhinomjakaa
section
open Go.RowKit

theorem cmpW_more {w es : List Int} (g : Int) (h : cmpW w es < 0) : cmpW w (es ++ [g]) < 0 := by
  have := cmpW_len (Int.le_of_lt h)
  unfold cmpW
  rw [List.length_append, List.length_singleton, if_pos (by omega)]
  decide
theorem cmpW_same (a : List Int) {x y : Int} (h : x < y) : cmpW (a ++ [x]) (a ++ [y]) < 0 := by
  rw [cmpW_snoc, cmpW_self, if_pos rfl, cmpL_one, if_pos h]; decide
theorem cmpW_lt1 {a b : List Int} (x y : Int) (h : cmpW a b < 0) : cmpW (a ++ [x]) (b ++ [y]) < 0 := by
  rw [cmpW_snoc, if_neg (by omega)]; exact h
theorem cmpW_le1 {a b : List Int} (x : Int) (h : cmpW a b ≤ 0) : cmpW (a ++ [x]) (b ++ [x]) ≤ 0 := by
  rw [cmpW_snoc]
  split
  · rw [cmpL_self]; exact Int.le_refl _
  · exact h

variable {α : Type} {nx : α → Int → Option α} {F : List Int}

theorem srC_stp [DecidableEq α] {a : α × List Int} {s : Sr α} {f : Int} {w : List Int} (h : s.stp = some w) : srC nx a s f = s := by unfold srC; rw [h]
theorem fold_stp [DecidableEq α] {a : α × List Int} {w : List Int} : ∀ (l : List Int) {s : Sr α}, s.stp = some w → l.foldl (srC nx a) s = s
  | [], _, _ => rfl
  | f :: l, s, h => by rw [List.foldl_cons, srC_stp h]; exact fold_stp l h
theorem srC_pre [DecidableEq α] {a : α × List Int} {s : Sr α} {f : Int} : ∃ m, (srC nx a s f).fnd = s.fnd ++ m := by
  unfold srC
  cases s.stp with
  | some w => exact ⟨[], by simp⟩
  | none =>
    dsimp only
    cases nx a.1 f with
    | none => exact ⟨[], by simp⟩
    | some t =>
      dsimp only
      split
      · exact ⟨[], by simp⟩
      · exact ⟨_, rfl⟩
theorem fold_pre [DecidableEq α] {a : α × List Int} : ∀ (l : List Int) (s : Sr α), ∃ m, (l.foldl (srC nx a) s).fnd = s.fnd ++ m
  | [], s => ⟨[], by simp⟩
  | f :: l, s => by
    obtain ⟨m, hm⟩ := srC_pre (nx := nx) (a := a) (s := s) (f := f)
    obtain ⟨m', hm'⟩ := fold_pre l (srC nx a s f)
    exact ⟨m ++ m', by rw [List.foldl_cons, hm', hm, List.append_assoc]⟩
/-- The steps of one state: all well, or one leads out. -/
theorem fold_law [DecidableEq α] {s0 : α} {a : α × List Int} (ha : goW nx s0 a.2 = some a.1 ∧ ∀ g ∈ a.2, g ∈ F) : ∀ (l : List Int) (s : Sr α) (done : List (List Int)), SrI nx F s0 s done → s.stp = none → (∀ f ∈ l, f ∈ F) → l.Pairwise (· < ·) → (∀ w ∈ done, ∀ f ∈ l, cmpW w (a.2 ++ [f]) < 0) →
    ((l.foldl (srC nx a) s).stp = none ∧ SrI nx F s0 (l.foldl (srC nx a) s) (done ++ l.map fun f => a.2 ++ [f])) ∨
    (∃ pre f post s', l = pre ++ f :: post ∧ nx a.1 f = none ∧ SrI nx F s0 s' (done ++ pre.map fun f => a.2 ++ [f]) ∧ s'.stp = none ∧ l.foldl (srC nx a) s = ⟨s'.fnd, some (a.2 ++ [f])⟩)
  | [], s, done, h, hs, _, _, _ => .inl ⟨hs, by simpa using h⟩
  | f :: l, s, done, h, hs, hF, hp, hd => by
    have hp' := List.pairwise_cons.1 hp
    cases e : nx a.1 f with
    | none =>
      refine .inr ⟨[], f, l, s, rfl, e, by simpa using h, hs, ?_⟩
      have : srC nx a s f = ⟨s.fnd, some (a.2 ++ [f])⟩ := by unfold srC; rw [hs]; dsimp only; rw [e]
      rw [List.foldl_cons, this]
      exact fold_stp l rfl
    | some t =>
      have h1 := h.step nx F hs ha (hF f (List.mem_cons_self ..)) (fun w hw => hd w hw f (List.mem_cons_self ..))
      have hs1 : (srC nx a s f).stp = none := by
        unfold srC
        rw [hs]
        dsimp only
        rw [e]
        dsimp only
        split
        · exact hs
        · rfl
      have hd1 : ∀ w ∈ done ++ [a.2 ++ [f]], ∀ g ∈ l, cmpW w (a.2 ++ [g]) < 0 := fun w hw g hg => by
        rcases List.mem_append.1 hw with hw | hw
        · exact hd w hw g (List.mem_cons_of_mem _ hg)
        · have : w = a.2 ++ [f] := by simpa using hw
          subst this
          exact cmpW_same a.2 (hp'.1 g hg)
      rcases fold_law ha l _ _ h1 hs1 (fun g hg => hF g (List.mem_cons_of_mem _ hg)) hp'.2 hd1 with ⟨r1, r2⟩ | ⟨pre, g, post, s', r1, r2, r3, r4, r5⟩
      · refine .inl ⟨r1, ?_⟩
        rw [List.append_assoc] at r2
        exact r2
      · refine .inr ⟨f :: pre, g, post, s', by rw [r1]; rfl, r2, ?_, r4, r5⟩
        rw [List.append_assoc] at r3
        exact r3
/-- All candidates of the first i states. -/
def cndQ (F : List Int) (l : List (α × List Int)) : List (List Int) := l.flatMap fun a => F.map fun f => a.2 ++ [f]
/-- The search between two states: i of them are done. -/
structure SrQ (nx : α → Int → Option α) (F : List Int) (s0 : α) (i : Nat) (s : Sr α) : Prop where
  inv : SrI nx F s0 s (cndQ F (s.fnd.take i))
  go : s.stp = none
  le : i ≤ s.fnd.length
theorem SrQ.start (s0 : α) : SrQ nx F s0 0 ⟨[(s0, [])], none⟩ :=
  ⟨⟨⟨[], rfl⟩, by simp, by simp, fun a ha => by
    have : a = (s0, []) := by simpa using ha
    subst this
    exact ⟨rfl, fun f hf => by cases hf⟩, fun a ha => by
    have : a = (s0, []) := by simpa using ha
    subst this
    exact .inl rfl, fun _ w hw => by simp [cndQ] at hw⟩, rfl, Nat.zero_le _⟩
/-- The way out that the search hands back. -/
structure OutW (nx : α → Int → Option α) (F : List Int) (s0 : α) (w : List Int) : Prop where
  all : ∀ f ∈ w, f ∈ F
  out : goW nx s0 w = none
  way : ∃ es f t, w = es ++ [f] ∧ goW nx s0 es = some t ∧ nx t f = none
  least : ∀ es g t, (∀ f ∈ es, f ∈ F) → g ∈ F → goW nx s0 es = some t → nx t g = none → cmpW w (es ++ [g]) ≤ 0
theorem snoc_ind {P : List Int → Prop} (h0 : P []) (h1 : ∀ l x, P l → P (l ++ [x])) : ∀ l, P l := by
  intro l
  have : ∀ n (l : List Int), l.length = n → P l := by
    intro n
    induction n with
    | zero => intro l hl; rw [List.length_eq_zero_iff.1 hl]; exact h0
    | succ n ih =>
      intro l hl
      have hne : l ≠ [] := fun e => by rw [e] at hl; cases hl
      rw [← List.dropLast_concat_getLast hne]
      exact h1 _ _ (ih _ (by rw [List.length_dropLast]; omega))
  exact this _ l rfl
theorem SrQ.step [DecidableEq α] {s0 : α} {i : Nat} {s : Sr α} (h : SrQ nx F s0 i s) (hp : F.Pairwise (· < ·)) {a : α × List Int} (hi : s.fnd[i]? = some a) :
    SrQ nx F s0 (i + 1) (srI nx F s a) ∨ ∃ w, (srI nx F s a).stp = some w ∧ OutW nx F s0 w := by
  obtain ⟨hil, hia⟩ := List.getElem?_eq_some_iff.1 hi
  have hmem : a ∈ s.fnd := List.mem_of_getElem? hi
  have ha := h.inv.way a hmem
  have htk : s.fnd.take (i + 1) = s.fnd.take i ++ [a] := by rw [List.take_add_one, hi]; rfl
  have hlt : ∀ b ∈ s.fnd.take i, cmpW b.2 a.2 < 0 := fun b hb => by
    obtain ⟨j, hj, hbj⟩ := List.mem_iff_getElem.1 hb
    rw [List.length_take] at hj
    rw [List.getElem_take] at hbj
    have := List.pairwise_iff_getElem.1 h.inv.srt j i (by omega) hil (by omega)
    rw [hbj, hia] at this
    exact this
  have hd : ∀ w ∈ cndQ F (s.fnd.take i), ∀ f ∈ F, cmpW w (a.2 ++ [f]) < 0 := fun w hw f _ => by
    obtain ⟨b, hb, hw⟩ := List.mem_flatMap.1 hw
    obtain ⟨g, -, rfl⟩ := List.mem_map.1 hw
    exact cmpW_lt1 g f (hlt b hb)
  have hc : cndQ F (s.fnd.take (i + 1)) = cndQ F (s.fnd.take i) ++ F.map fun f => a.2 ++ [f] := by
    unfold cndQ
    rw [htk, List.flatMap_append]
    simp
  rcases fold_law ha F s _ h.inv h.go (fun f hf => hf) hp hd with ⟨r1, r2⟩ | ⟨pre, f, post, s', r1, r2, r3, r4, r5⟩
  · refine .inl ?_
    obtain ⟨m, hm⟩ := fold_pre (nx := nx) (a := a) F s
    have hm' : (srI nx F s a).fnd = s.fnd ++ m := hm
    refine ⟨?_, r1, by rw [hm', List.length_append]; omega⟩
    rw [hm', List.take_append_of_le_length (by omega), hc]
    exact r2
  · refine .inr ⟨a.2 ++ [f], by show (F.foldl (srC nx a) s).stp = _; rw [r5], ?_⟩
    have hfF : f ∈ F := by rw [r1]; simp
    have hout : goW nx s0 (a.2 ++ [f]) = none := by rw [goW_snoc, ha.1]; exact r2
    have hrun := r3.run r4
    -- the state at the stop begins as the one before
    obtain ⟨m, hm⟩ : ∃ m, s'.fnd = s.fnd ++ m := by
      obtain ⟨m, hm⟩ := fold_pre (nx := nx) (a := a) F s
      rw [r5] at hm
      exact ⟨m, hm⟩
    have hat : s'.fnd[i]? = some a := by rw [hm, List.getElem?_append_left hil]; exact hi
    have hsrt := r3.srt
    have cand : ∀ b ∈ s'.fnd, ∀ g ∈ F, (b.2 ++ [g] ∈ cndQ F (s.fnd.take i) ++ pre.map fun f => a.2 ++ [f]) ∨ cmpW (a.2 ++ [f]) (b.2 ++ [g]) ≤ 0 := fun b hb g hg => by
      obtain ⟨j, hj, hbj⟩ := List.mem_iff_getElem.1 hb
      rcases Nat.lt_trichotomy j i with hji | hji | hji
      · refine .inl (List.mem_append_left _ ?_)
        refine List.mem_flatMap.2 ⟨b, ?_, List.mem_map.2 ⟨g, hg, rfl⟩⟩
        refine List.mem_iff_getElem?.2 ⟨j, ?_⟩
        rw [List.getElem?_take_of_lt hji]
        have : s'.fnd[j]? = some b := by rw [List.getElem?_eq_getElem hj, hbj]
        rw [hm, List.getElem?_append_left (by omega)] at this
        exact this
      · subst hji
        have : b = a := by
          have e1 : s'.fnd[j]? = some b := by rw [List.getElem?_eq_getElem hj, hbj]
          rw [hat] at e1
          cases e1; rfl
        subst this
        rw [r1] at hg
        rcases List.mem_append.1 hg with hg | hg
        · exact .inl (List.mem_append_right _ (List.mem_map.2 ⟨g, hg, rfl⟩))
        · rcases List.mem_cons.1 hg with e | hg
          · rw [e]; exact .inr (by rw [cmpW_self]; exact Int.le_refl _)
          · rw [r1] at hp
            have := (List.pairwise_cons.1 (List.pairwise_append.1 hp).2.1).1 g hg
            exact .inr (Int.le_of_lt (cmpW_same _ this))
      · have hil' : i < s'.fnd.length := by omega
        have := List.pairwise_iff_getElem.1 hsrt i j hil' hj hji
        have e1 : s'.fnd[i] = a := by
          have := List.getElem?_eq_getElem hil'
          rw [hat] at this
          cases this; rfl
        rw [e1, hbj] at this
        exact .inr (Int.le_of_lt (cmpW_lt1 f g this))
    have claim : ∀ es, (∀ x ∈ es, x ∈ F) → ∀ t, goW nx s0 es = some t → (∃ b ∈ s'.fnd, b.1 = t ∧ cmpW b.2 es ≤ 0) ∨ cmpW (a.2 ++ [f]) es < 0 := by
      refine snoc_ind ?_ ?_
      · intro _ t ht
        have ht : some s0 = some t := ht
        cases ht
        obtain ⟨l, hl⟩ := r3.root
        exact .inl ⟨(s0, []), by rw [hl]; simp, rfl, by rw [cmpW_self]; exact Int.le_refl _⟩
      · intro es g ih hin t ht
        rw [goW_snoc] at ht
        cases hes : goW nx s0 es with
        | none => rw [hes] at ht; cases ht
        | some u =>
          rw [hes] at ht
          have ht : nx u g = some t := ht
          rcases ih (fun x hx => hin x (List.mem_append_left _ hx)) u hes with ⟨b, hb, eb, hle⟩ | hlt
          · have hgo : goW nx s0 (b.2 ++ [g]) = some t := by rw [goW_snoc, (r3.way b hb).1, eb]; exact ht
            rcases cand b hb g (hin g (by simp)) with hin' | hle'
            · obtain ⟨v, hv, b', hb', eb', hle'⟩ := hrun _ hin'
              rw [hgo] at hv
              cases hv
              exact .inl ⟨b', hb', eb', cmpW_le hle' (cmpW_le1 g hle)⟩
            · have hle2 := cmpW_le hle' (cmpW_le1 g hle)
              refine .inr ?_
              rcases Int.lt_or_eq_of_le hle2 with h3 | h3
              · exact h3
              · have e := cmpW_zero h3
                rw [e, goW_snoc, hes] at hout
                have hout : nx u g = none := hout
                rw [hout] at ht; cases ht
          · exact .inr (cmpW_more g hlt)
    refine ⟨fun x hx => ?_, hout, ⟨a.2, f, a.1, rfl, ha.1, r2⟩, fun es g t hes hg ht hn => ?_⟩
    · rcases List.mem_append.1 hx with hx | hx
      · exact ha.2 x hx
      · have : x = f := by simpa using hx
        subst this; exact hfF
    · rcases claim es hes t ht with ⟨b, hb, eb, hle⟩ | hlt
      · rcases cand b hb g hg with hin' | hle'
        · obtain ⟨v, hv, -⟩ := hrun _ hin'
          rw [goW_snoc, (r3.way b hb).1, eb] at hv
          have hv : nx t g = some v := hv
          rw [hn] at hv; cases hv
        · exact cmpW_le hle' (cmpW_le1 g hle)
      · exact Int.le_of_lt (cmpW_more g hlt)
/-- When all are done: whatever steps come, nothing leads out, and each state is found by a first way. -/
theorem SrQ.done {s0 : α} {s : Sr α} (h : SrQ nx F s0 s.fnd.length s) : ∀ es, (∀ x ∈ es, x ∈ F) → ∃ t, goW nx s0 es = some t ∧ ∃ b ∈ s.fnd, b.1 = t ∧ cmpW b.2 es ≤ 0 := by
  have hrun := h.inv.run h.go
  rw [List.take_length] at hrun
  refine snoc_ind ?_ ?_
  · intro _
    obtain ⟨l, hl⟩ := h.inv.root
    exact ⟨s0, rfl, (s0, []), by rw [hl]; simp, rfl, by rw [cmpW_self]; exact Int.le_refl _⟩
  · intro es g ih hin
    obtain ⟨u, hu, b, hb, eb, hle⟩ := ih (fun x hx => hin x (List.mem_append_left _ hx))
    obtain ⟨t, ht, b', hb', eb', hle'⟩ := hrun (b.2 ++ [g]) (List.mem_flatMap.2 ⟨b, hb, List.mem_map.2 ⟨g, hin g (by simp), rfl⟩⟩)
    refine ⟨t, ?_, b', hb', eb', cmpW_le hle' (cmpW_le1 g hle)⟩
    rw [goW_snoc, (h.inv.way b hb).1, eb] at ht
    rw [goW_snoc, hu]
    exact ht
end
section
open Go.RowKit

variable {α : Type} {nx : α → Int → Option α} {F : List Int}

def alC [DecidableEq α] (nx : α → Int → Option α) (a : α) (o : List α) (f : Int) : List α := match nx a f with
  | none => o
  | some t => if o.any (fun x => decide (x = t)) then o else o ++ [t]
def alI [DecidableEq α] (nx : α → Int → Option α) (F : List Int) (o : List α) (a : α) : List α := F.foldl (alC nx a) o
/-- All states, between two of them: i are done. -/
structure AlQ (nx : α → Int → Option α) (F : List Int) (s0 : α) (i : Nat) (o : List α) : Prop where
  root : s0 ∈ o
  nd : o.Nodup
  way : ∀ t ∈ o, ∃ es, (∀ f ∈ es, f ∈ F) ∧ goW nx s0 es = some t
  clo : ∀ a ∈ o.take i, ∀ f ∈ F, ∀ t, nx a f = some t → t ∈ o
  le : i ≤ o.length
theorem AlQ.start (s0 : α) : AlQ nx F s0 0 [s0] :=
  ⟨by simp, by simp, fun t ht => by
    have : t = s0 := by simpa using ht
    subst this
    exact ⟨[], fun f hf => (by cases hf), rfl⟩, fun a ha => by simp at ha, Nat.zero_le _⟩
theorem al_fold [DecidableEq α] {s0 a : α} {ws : List Int} (hw : ∀ f ∈ ws, f ∈ F) (ha : goW nx s0 ws = some a) : ∀ (l : List Int) (o : List α), (∀ f ∈ l, f ∈ F) → o.Nodup → (∀ t ∈ o, ∃ es, (∀ f ∈ es, f ∈ F) ∧ goW nx s0 es = some t) →
    (∃ m, l.foldl (alC nx a) o = o ++ m) ∧ (l.foldl (alC nx a) o).Nodup ∧ (∀ t ∈ l.foldl (alC nx a) o, ∃ es, (∀ f ∈ es, f ∈ F) ∧ goW nx s0 es = some t) ∧ (∀ f ∈ l, ∀ t, nx a f = some t → t ∈ l.foldl (alC nx a) o)
  | [], o, _, hn, h => ⟨⟨[], by simp⟩, hn, h, fun f hf => (by cases hf)⟩
  | f :: l, o, hF, hn, h => by
    have hstep : (∃ m, alC nx a o f = o ++ m) ∧ (alC nx a o f).Nodup ∧ (∀ t ∈ alC nx a o f, ∃ es, (∀ f ∈ es, f ∈ F) ∧ goW nx s0 es = some t) ∧ (∀ t, nx a f = some t → t ∈ alC nx a o f) := by
      unfold alC
      cases e : nx a f with
      | none => exact ⟨⟨[], by simp⟩, hn, h, fun t ht => (by cases ht)⟩
      | some u =>
        dsimp only
        by_cases hk : (o.any fun x => decide (x = u)) = true
        · rw [if_pos hk]
          refine ⟨⟨[], by simp⟩, hn, h, fun t ht => ?_⟩
          cases ht
          obtain ⟨x, hx, ex⟩ := List.any_eq_true.1 hk
          rw [← of_decide_eq_true ex]; exact hx
        · rw [if_neg hk]
          refine ⟨⟨[u], rfl⟩, ?_, fun t ht => ?_, fun t ht => by cases ht; simp⟩
          · rw [List.nodup_append]
            refine ⟨hn, by simp, fun x hx y hy => ?_⟩
            have : y = u := by simpa using hy
            subst this
            rintro rfl
            exact hk (List.any_eq_true.2 ⟨x, hx, decide_eq_true rfl⟩)
          · rcases List.mem_append.1 ht with ht | ht
            · exact h t ht
            · have : t = u := by simpa using ht
              subst this
              refine ⟨ws ++ [f], fun g hg => ?_, by rw [goW_snoc, ha]; exact e⟩
              rcases List.mem_append.1 hg with hg | hg
              · exact hw g hg
              · have : g = f := by simpa using hg
                subst this
                exact hF g (List.mem_cons_self ..)
    obtain ⟨⟨m1, s1⟩, s2, s3, s4⟩ := hstep
    obtain ⟨⟨m2, r1⟩, r2, r3, r4⟩ := al_fold hw ha l (alC nx a o f) (fun g hg => hF g (List.mem_cons_of_mem _ hg)) s2 s3
    rw [List.foldl_cons]
    refine ⟨⟨m1 ++ m2, by rw [r1, s1, List.append_assoc]⟩, r2, r3, fun g hg t ht => ?_⟩
    rcases List.mem_cons.1 hg with e | hg
    · subst e
      rw [r1]
      exact List.mem_append_left _ (s4 t ht)
    · exact r4 g hg t ht
theorem AlQ.step [DecidableEq α] {s0 : α} {i : Nat} {o : List α} (h : AlQ nx F s0 i o) {a : α} (hi : o[i]? = some a) : AlQ nx F s0 (i + 1) (alI nx F o a) := by
  obtain ⟨hil, -⟩ := List.getElem?_eq_some_iff.1 hi
  obtain ⟨ws, hw, ha⟩ := h.way a (List.mem_of_getElem? hi)
  obtain ⟨⟨m, r1⟩, r2, r3, r4⟩ := al_fold hw ha F o (fun f hf => hf) h.nd h.way
  have e : alI nx F o a = o ++ m := r1
  refine ⟨by rw [e]; exact List.mem_append_left _ h.root, r2, r3, fun b hb f hf t ht => ?_, by rw [e, List.length_append]; omega⟩
  rw [e, List.take_append_of_le_length (by omega), List.take_add_one, hi] at hb
  rcases List.mem_append.1 hb with hb | hb
  · rw [e]; exact List.mem_append_left _ (h.clo b hb f hf t ht)
  · have : b = a := by simpa using hb
    subst this
    exact r4 f hf t ht
/-- When all are done: just the states that are reached. -/
theorem AlQ.done {s0 : α} {o : List α} (h : AlQ nx F s0 o.length o) (t : α) : t ∈ o ↔ ∃ es, (∀ f ∈ es, f ∈ F) ∧ goW nx s0 es = some t := by
  refine ⟨h.way t, ?_⟩
  rintro ⟨es, hes, ht⟩
  have hc := h.clo
  rw [List.take_length] at hc
  have key : ∀ es, (∀ f ∈ es, f ∈ F) → ∀ t, goW nx s0 es = some t → t ∈ o := by
    refine snoc_ind ?_ ?_
    · intro _ t ht
      have ht : some s0 = some t := ht
      cases ht
      exact h.root
    · intro es g ih hin t ht
      rw [goW_snoc] at ht
      cases hes : goW nx s0 es with
      | none => rw [hes] at ht; cases ht
      | some u =>
        rw [hes] at ht
        exact hc u (ih (fun x hx => hin x (List.mem_append_left _ hx)) u hes) g (hin g (by simp)) t ht
  exact key es hes t ht
/-- A list without repeats, all of whose members are in another, is no longer. -/
theorem nodup_le {l : List α} : ∀ {u : List α}, l.Nodup → (∀ x ∈ l, x ∈ u) → l.length ≤ u.length := by
  induction l with
  | nil => intro u _ _; simp
  | cons a l ih =>
    intro u hn hs
    have hn' := List.nodup_cons.1 hn
    obtain ⟨p, q, e⟩ := List.append_of_mem (hs a (List.mem_cons_self ..))
    have := ih (u := p ++ q) hn'.2 (fun x hx => by
      have := hs x (List.mem_cons_of_mem _ hx)
      rw [e] at this
      rcases List.mem_append.1 this with h | h
      · exact List.mem_append_left _ h
      · rcases List.mem_cons.1 h with h | h
        · subst h; exact absurd hx hn'.1
        · exact List.mem_append_right _ h)
    rw [e]
    rw [List.length_append] at this ⊢
    rw [List.length_cons, List.length_cons]
    omega
/-- Whatever steps come, none leads out. -/
def HldQ (nx : α → Int → Option α) (F : List Int) (s0 : α) : Prop := ∀ es, (∀ f ∈ es, f ∈ F) → goW nx s0 es ≠ none
theorem HldQ.sub {s0 : α} {G : List Int} (h : HldQ nx F s0) (hg : ∀ f ∈ G, f ∈ F) : HldQ nx G s0 := fun es hes => h es fun f hf => hg f (hes f hf)
/-- .. also where more is within the bound. -/
theorem HldQ.wide {s0 : α} {nx' : α → Int → Option α} (h : HldQ nx F s0) (hx : ∀ s f t, nx s f = some t → nx' s f = some t) : HldQ nx' F s0 := by
  have key : ∀ (es : List Int) (s t : α), goW nx s es = some t → goW nx' s es = some t := by
    intro es
    induction es with
    | nil => intro s t h; exact h
    | cons d es ih =>
      intro s t h
      have h : (nx s d).bind (fun u => goW nx u es) = some t := h
      cases e : nx s d with
      | none => rw [e] at h; cases h
      | some u =>
        rw [e] at h
        show (nx' s d).bind (fun u => goW nx' u es) = some t
        rw [hx s d u e]
        exact ih u t h
  intro es hes hn
  cases e : goW nx s0 es with
  | none => exact h es hes e
  | some t => rw [key es s0 t e] at hn; cases hn
theorem OutW.not {s0 : α} {w : List Int} (h : OutW nx F s0 w) : ¬ HldQ nx F s0 := fun hh => hh w h.all h.out
theorem SrQ.holds {s0 : α} {s : Sr α} (h : SrQ nx F s0 s.fnd.length s) : HldQ nx F s0 := fun es hes hn => by
  obtain ⟨t, ht, -⟩ := h.done es hes
  rw [ht] at hn; cases hn
end
end Go.Proofs.Ytfdlhhinomjakaa
