/-
  Texts of this claim, in their build order: OW9 OW11 OW12.
-/
import Derived.Test.YtbpcapcgbnbknaaGreatOne40
import Derived.Test.YtbpcapcgbnbknaaGreatOne44
import Derived.Test.YtbpcapcgbnbknaaGreatOne30

namespace Go.Proofs.YtbpcapcgbnbknaaGreat
section
open Go.RowKit

theorem prm_none {p : Plt} {lim : Int} : ∀ (rs : List (Int × Int)) (l : List OSt), rchR p l rs = none → prmR p lim l rs = false
  | [], l, h => by unfold rchR at h; cases h
  | r :: rs, l, h => by
    unfold rchR at h
    unfold prmR
    cases he : EmpB p r l with
    | true => simp
    | false =>
      rw [if_neg (by rw [he]; exact Bool.false_ne_true)] at h
      rw [prm_none rs _ h]; simp
theorem run_at {p : Plt} : ∀ {ds : List Int} {s t : OSt}, (∀ k, k < ds.length → wthn (gi ds k) 0 50 = true) → goQ p s ds = some t → ∀ i, i ≤ ds.length → goQ p s (ds.take i) = some (sg (s :: (runA p s ds).1) i)
  | [], s, t, _, h, i, hi => by
    obtain rfl : i = 0 := by simpa using hi
    rfl
  | d :: ds, s, t, hf, h, 0, hi => rfl
  | d :: ds, s, t, hf, h, i + 1, hi => by
    have h0 : wthn d 0 50 = true := hf 0 (by simp)
    have h' : (nxtA p s d).bind (fun u => goQ p u ds) = some t := h
    unfold runA
    rw [if_neg (by rw [h0]; simp)]
    cases e : nxtA p s d with
    | none => rw [e] at h'; cases h'
    | some u =>
      rw [e] at h'
      have := run_at (fun k hk => hf (k + 1) (by simp only [List.length_cons]; omega)) h' i (by simpa using hi)
      show (nxtA p s d).bind (fun x => goQ p x (ds.take i)) = _
      rw [e]
      exact this
theorem inC_take {c : List (Int × Int)} {ds : List Int} (h : inC c ds) (j : Nat) : inC (c.take j) (ds.take j) := by
  refine ⟨by rw [List.length_take, List.length_take, h.1], fun i hi => ?_⟩
  rw [List.length_take] at hi
  rw [gis_take (by omega), fgs_take (by omega)]
  exact h.2 i (by omega)
theorem in_flow {c : List (Int × Int)} {ds : List Int} (hc : ∀ k, k < c.length → 0 ≤ (fg c k).1 ∧ (fg c k).2 ≤ 50 ∧ (fg c k).1 ≤ (fg c k).2) (hd : inC c ds) : ∀ k, k < ds.length → wthn (gi ds k) 0 50 = true := fun k hk => by
  have hk' : k < c.length := by have := hd.1; omega
  have h1 := mem_rngL (hd.2 k hk')
  have h2 := hc k hk'
  rw [wthn_iff]
  omega
theorem ev_none {p : Plt} {s : OSt} {c : List (Int × Int)} {lim : Int} {ds : List Int} (h : opLE p s.1 c lim = 0) (hr : rchR p [s] c = none) (hd : inC c ds) : rchE p s c = 22 ∧ lwtE p s c = 22 ∧ prmB p s c lim = false ∧ (rnR p s ds = 0 ∨ rnR p s ds = 22) := by
  have h0 : opCE p s.1 c = 0 := (firstE2.1 (show firstE [_, _] = 0 from h)).1
  obtain ⟨-, -, hl, hc⟩ := (opLE_ok h).1
  have hlow := (low_law (p := p) c [(s, [])] [s] 0 (0, s.1) (fun r hr => by
    obtain ⟨i, hi, e⟩ := List.getElem_of_mem hr
    have := hc i hi
    rw [fg_lt hi, e] at this
    exact this.2.2) (List.pairwise_singleton _ _) (by simp) (fun x => by simp [sts])).1 hr
  refine ⟨by unfold rchE; rw [if_pos h0, hr]; rfl, ?_, ?_, ?_⟩
  · unfold lwtE lowO
    rw [if_pos h0, hlow]; rfl
  · unfold prmB
    rw [if_pos h, ← prm_law c [(s, [])] [s] (fun x => by simp [sts])]
    exact prm_none c [s] hr
  · have hlen : ds.length ≤ 20 := by have := hd.1; omega
    rw [rnR_ok (opLE_parts h).1 hlen]
    cases e : goQ p s ds with
    | none => exact .inr (run_none (in_flow hc hd) e)
    | some t => exact .inl (run_some (in_flow hc hd) e).1
end
section
open Go.RowKit

/-- The lowest volume with its first tick: no state of any demands in the class lies lower, none as low comes earlier. -/
theorem ft_law {p : Plt} {s : OSt} : ∀ (rs pre : List (Int × Int)) (now : List (OSt × List Int)) (k : Int) (st r : Int × Int), LvOk p s pre now → st.1 ≤ k → lowF k st (tks p rs now) = some r →
    (∀ j, pre.length ≤ j → j ≤ (pre ++ rs).length → ∀ ds, inC ((pre ++ rs).take j) ds → ∃ t, goQ p s ds = some t ∧ (r.2 < t.1 ∨ (r.2 = t.1 ∧ r.1 ≤ k + ((j - pre.length : Nat) : Int)))) ∧ (r = st ∨ r.2 < st.2) ∧
    (r = st ∨ ∃ j ds t, pre.length ≤ j ∧ j ≤ (pre ++ rs).length ∧ r.1 = k + ((j - pre.length : Nat) : Int) ∧ inC ((pre ++ rs).take j) ds ∧ goQ p s ds = some t ∧ t.1 = r.2) := by
  intro rs
  induction rs with
  | nil =>
    intro pre now k st r h hk hl
    unfold tks lowF lowF at hl
    injection hl with hl
    subst hl
    obtain ⟨h1, h2, h3⟩ := lowL_spec k now st
    rw [List.append_nil]
    refine ⟨fun j hj1 hj2 ds hds => ?_, ?_, ?_⟩
    · obtain rfl : j = pre.length := by omega
      rw [List.take_length] at hds
      obtain ⟨t, ht, hm⟩ := h.all ds hds
      obtain ⟨a, ha, rfl⟩ := List.mem_map.1 hm
      refine ⟨a.1, ht, ?_⟩
      have h4 := h1 a ha
      rcases Int.lt_or_eq_of_le h4 with h5 | h5
      · exact .inl h5
      · refine .inr ⟨h5, ?_⟩
        rcases h3 with ⟨-, e⟩ | ⟨e1, -⟩
        · rw [e]; omega
        · rw [e1]; omega
    · rcases h3 with ⟨-, e⟩ | ⟨-, e2, -⟩
      · exact .inl e
      · exact .inr e2
    · rcases h3 with ⟨-, e⟩ | ⟨e1, e2, a, ha, e3⟩
      · exact .inl e
      · obtain ⟨w1, w2⟩ := h.way a ha
        exact .inr ⟨pre.length, a.2, a.1, Nat.le_refl _, Nat.le_refl _, by rw [e1]; omega, by rw [List.take_length]; exact w1, w2, e3⟩
  | cons r0 rs ih =>
    intro pre now k st r h hk hl
    unfold tks lowF at hl
    obtain ⟨h1, h2, h3⟩ := lowL_spec k now st
    cases he : (tkL p r0 now).emp with
    | some e => rw [he] at hl; dsimp only at hl; unfold lowF at hl; cases hl
    | none =>
      rw [he] at hl
      dsimp only at hl
      have hk2 : (lowL k st now).1 ≤ k + 1 := by
        rcases h3 with ⟨-, e⟩ | ⟨e1, -⟩
        · rw [e]; omega
        · rw [e1]; omega
      obtain ⟨i1, i2, i3⟩ := ih (pre ++ [r0]) _ (k + 1) (lowL k st now) r (h.next he) hk2 hl
      have e0 : (pre ++ [r0]) ++ rs = pre ++ r0 :: rs := by simp
      rw [e0] at i1 i3
      have e1 : (pre ++ [r0]).length = pre.length + 1 := by simp
      rw [e1] at i1 i3
      refine ⟨fun j hj1 hj2 ds hds => ?_, ?_, ?_⟩
      · by_cases hj : j = pre.length
        · subst hj
          rw [take_pre] at hds
          obtain ⟨t, ht, hm⟩ := h.all ds hds
          obtain ⟨a, ha, rfl⟩ := List.mem_map.1 hm
          refine ⟨a.1, ht, ?_⟩
          have h4 := h1 a ha
          rcases i2 with e | e
          · rw [e]
            rcases Int.lt_or_eq_of_le h4 with h5 | h5
            · exact .inl h5
            · refine .inr ⟨h5, ?_⟩
              rcases h3 with ⟨-, e'⟩ | ⟨e', -⟩
              · rw [e']; omega
              · rw [e']; omega
          · exact .inl (by omega)
        · obtain ⟨t, ht, hx⟩ := i1 j (by omega) hj2 ds hds
          refine ⟨t, ht, ?_⟩
          rcases hx with hx | ⟨hx1, hx2⟩
          · exact .inl hx
          · exact .inr ⟨hx1, by omega⟩
      · rcases i2 with e | e
        · rw [e]
          rcases h3 with ⟨-, e'⟩ | ⟨-, e', -⟩
          · exact .inl e'
          · exact .inr e'
        · exact .inr (by omega)
      · rcases i3 with e | ⟨j, ds, t, a1, a2, a3, a4, a5, a6⟩
        · rcases h3 with ⟨-, e'⟩ | ⟨e2, e3, a, ha, e4⟩
          · exact .inl (e.trans e')
          · obtain ⟨w1, w2⟩ := h.way a ha
            refine .inr ⟨pre.length, a.2, a.1, Nat.le_refl _, by simp, by rw [e, e2]; omega, by rw [take_pre]; exact w1, w2, by rw [e]; exact e4⟩
        · exact .inr ⟨j, ds, t, by omega, a2, by omega, a4, a5, a6⟩
/-- All demands of a class: each list so far with each demand of the next range behind it. -/
def allN (L : List (List Int)) (r : Int × Int) : List (List Int) := L.flatMap fun ds => (rngL r).map fun n => ds ++ [n]
def allD (c : List (Int × Int)) : List (List Int) := c.foldl allN [[]]
theorem mem_allN {L : List (List Int)} {r : Int × Int} {ds : List Int} : ds ∈ allN L r ↔ ∃ a ∈ L, ∃ n ∈ rngL r, ds = a ++ [n] := by
  unfold allN
  rw [List.mem_flatMap]
  constructor
  · rintro ⟨a, ha, h⟩
    obtain ⟨n, hn, e⟩ := List.mem_map.1 h
    exact ⟨a, ha, n, hn, e.symm⟩
  · rintro ⟨a, ha, n, hn, rfl⟩
    exact ⟨a, ha, List.mem_map.2 ⟨n, hn, rfl⟩⟩
theorem mem_allD' : ∀ (c pre : List (Int × Int)) (L : List (List Int)), (∀ ds, ds ∈ L ↔ inC pre ds) → ∀ ds, ds ∈ c.foldl allN L ↔ inC (pre ++ c) ds
  | [], pre, L, h, ds => by rw [List.append_nil]; exact h ds
  | r :: c, pre, L, h, ds => by
    rw [List.foldl_cons, show pre ++ r :: c = (pre ++ [r]) ++ c by simp]
    refine mem_allD' c (pre ++ [r]) (allN L r) (fun es => ?_) ds
    rw [mem_allN, inC_snoc]
    constructor
    · rintro ⟨a, ha, n, hn, rfl⟩
      exact ⟨a, n, rfl, (h a).1 ha, hn⟩
    · rintro ⟨a, n, rfl, ha, hn⟩
      exact ⟨a, (h a).2 ha, n, hn, rfl⟩
theorem mem_allD {c : List (Int × Int)} {ds : List Int} : ds ∈ allD c ↔ inC c ds := by
  have := mem_allD' c [] [[]] (fun ds => by rw [inC_nil]; simp) ds
  rwa [List.nil_append] at this
end
section
open Go.RowKit

theorem inC_app2 : ∀ {a b : List (Int × Int)} {ds es : List Int}, inC a ds → inC b es → inC (a ++ b) (ds ++ es)
  | [], b, ds, es, h1, h2 => by rw [inC_nil.1 h1]; exact h2
  | r :: a, b, ds, es, h1, h2 => by
    obtain ⟨n, fs, rfl⟩ := inC_ex h1
    obtain ⟨hn, hf⟩ := inC_cons.1 h1
    exact inC_cons.2 ⟨hn, inC_app2 hf h2⟩
theorem inC_any : ∀ {b : List (Int × Int)}, (∀ r ∈ b, r.1 ≤ r.2) → ∃ es, inC b es
  | [], _ => ⟨[], inC_nil.2 rfl⟩
  | r :: b, h => by
    obtain ⟨es, he⟩ := inC_any (b := b) (fun q hq => h q (List.mem_cons_of_mem _ hq))
    obtain ⟨n, hn⟩ := rngL_ne (h r (List.mem_cons_self ..))
    exact ⟨n :: es, inC_cons.2 ⟨hn, he⟩⟩
theorem inC_full {c : List (Int × Int)} {j : Nat} {ds : List Int} (hc : ∀ r ∈ c, r.1 ≤ r.2) (hj : j ≤ c.length) (h : inC (c.take j) ds) : ∃ fs, inC c fs ∧ fs.take j = ds := by
  obtain ⟨es, he⟩ := inC_any (b := c.drop j) (fun r hr => hc r (List.mem_of_mem_drop hr))
  have h1 := inC_app2 h he
  rw [List.take_append_drop] at h1
  have hl : ds.length = j := by rw [h.1, List.length_take]; omega
  exact ⟨ds ++ es, h1, by rw [List.take_append_of_le_length (by omega), List.take_of_length_le (by omega)]⟩
/-- The lowest volume with its first tick, along a run. -/
def obT : Nat → Int × Int → List OSt → Int × Int
  | _, st, [] => st
  | t, st, x :: l => obT (t + 1) (if x.1 < st.2 ∨ (x.1 = st.2 ∧ (t : Int) < st.1) then ((t : Int), x.1) else st) l
/-- One pair is no greater than another: lower, or as low and no later. -/
def LeT (a b : Int × Int) : Prop := a.2 < b.2 ∨ (a.2 = b.2 ∧ a.1 ≤ b.1)
theorem LeT.rfl' (a : Int × Int) : LeT a a := .inr ⟨rfl, Int.le_refl _⟩
theorem LeT.tr {a b c : Int × Int} (h1 : LeT a b) (h2 : LeT b c) : LeT a c := by unfold LeT at *; omega
theorem LeT.eq {a b : Int × Int} (h1 : LeT a b) (h2 : LeT b a) : a = b := by
  unfold LeT at *
  exact Prod.ext (by omega) (by omega)
theorem obT_spec : ∀ (l : List OSt) (t : Nat) (st : Int × Int), LeT (obT t st l) st ∧ (∀ i, i < l.length → LeT (obT t st l) (((t + i : Nat) : Int), (sg l i).1)) ∧ (obT t st l = st ∨ ∃ i, i < l.length ∧ obT t st l = (((t + i : Nat) : Int), (sg l i).1))
  | [], t, st => ⟨LeT.rfl' _, fun i hi => by simp at hi, .inl rfl⟩
  | x :: l, t, st => by
    have e : obT t st (x :: l) = obT (t + 1) (if x.1 < st.2 ∨ (x.1 = st.2 ∧ (t : Int) < st.1) then ((t : Int), x.1) else st) l := rfl
    rw [e]
    by_cases c : x.1 < st.2 ∨ (x.1 = st.2 ∧ (t : Int) < st.1)
    · rw [if_pos c]
      obtain ⟨h1, h2, h3⟩ := obT_spec l (t + 1) ((t : Int), x.1)
      have hx : LeT ((t : Int), x.1) st := by unfold LeT; dsimp only; omega
      refine ⟨h1.tr hx, fun i hi => ?_, ?_⟩
      · cases i with
        | zero => exact h1
        | succ i => have := h2 i (by simpa using hi); rw [show t + (i + 1) = t + 1 + i by omega]; exact this
      · rcases h3 with h3 | ⟨i, hi, h3⟩
        · exact .inr ⟨0, by simp, h3⟩
        · exact .inr ⟨i + 1, by simpa using hi, by rw [h3, show t + (i + 1) = t + 1 + i by omega]; rfl⟩
    · rw [if_neg c]
      obtain ⟨h1, h2, h3⟩ := obT_spec l (t + 1) st
      have hx : LeT st ((t : Int), x.1) := by unfold LeT; dsimp only; omega
      refine ⟨h1, fun i hi => ?_, ?_⟩
      · cases i with
        | zero => exact h1.tr hx
        | succ i => have := h2 i (by simpa using hi); rw [show t + (i + 1) = t + 1 + i by omega]; exact this
      · rcases h3 with h3 | ⟨i, hi, h3⟩
        · exact .inl h3
        · exact .inr ⟨i + 1, by simpa using hi, by rw [h3, show t + (i + 1) = t + 1 + i by omega]; rfl⟩
/-- What the loop over all runs has found so far. -/
structure ObS where
  kept : Bool
  emp : Bool
  tl : Int × Int
  ends : List OSt
def obF (p : Plt) (s : OSt) (lim : Int) (z : ObS) (ds : List Int) : ObS :=
  if rnR p s ds = 0 then ⟨z.kept && (runO p s ds).all (fun x => !blwQ p lim x), z.emp, obT 0 z.tl (runO p s ds), z.ends ++ [sg (runO p s ds) ds.length]⟩ else ⟨false, true, z.tl, z.ends⟩
theorem ob_spec {p : Plt} {s : OSt} {lim : Int} : ∀ (L : List (List Int)) (z : ObS),
    (L.foldl (obF p s lim) z).emp = (z.emp || L.any (fun ds => decide (rnR p s ds ≠ 0))) ∧
    (L.foldl (obF p s lim) z).kept = (z.kept && L.all (fun ds => decide (rnR p s ds = 0) && (runO p s ds).all (fun x => !blwQ p lim x))) ∧
    LeT (L.foldl (obF p s lim) z).tl z.tl ∧
    (∀ ds ∈ L, rnR p s ds = 0 → ∀ i, i < (runO p s ds).length → LeT (L.foldl (obF p s lim) z).tl ((i : Int), (sg (runO p s ds) i).1)) ∧
    ((L.foldl (obF p s lim) z).tl = z.tl ∨ ∃ ds ∈ L, rnR p s ds = 0 ∧ ∃ i, i < (runO p s ds).length ∧ (L.foldl (obF p s lim) z).tl = ((i : Int), (sg (runO p s ds) i).1)) ∧
    (∀ x, x ∈ (L.foldl (obF p s lim) z).ends ↔ x ∈ z.ends ∨ ∃ ds ∈ L, rnR p s ds = 0 ∧ x = sg (runO p s ds) ds.length)
  | [], z => ⟨by simp, by simp, LeT.rfl' _, fun ds h => (by cases h), .inl rfl, fun x => by simp⟩
  | ds :: L, z => by
    rw [List.foldl_cons]
    obtain ⟨h1, h2, h3, h4, h5, h6⟩ := ob_spec L (obF p s lim z ds)
    by_cases hr : rnR p s ds = 0
    · have e : obF p s lim z ds = ⟨z.kept && (runO p s ds).all (fun x => !blwQ p lim x), z.emp, obT 0 z.tl (runO p s ds), z.ends ++ [sg (runO p s ds) ds.length]⟩ := by unfold obF; rw [if_pos hr]
      rw [e] at h1 h2 h3 h4 h5 h6 ⊢
      dsimp only at h1 h2 h3 h5 h6
      obtain ⟨o1, o2, o3⟩ := obT_spec (runO p s ds) 0 z.tl
      refine ⟨?_, ?_, h3.tr o1, fun es he hz i hi => ?_, ?_, fun x => ?_⟩
      · rw [h1, List.any_cons]; simp [hr]
      · rw [h2, List.all_cons]; simp [hr, Bool.and_assoc]
      · rcases List.mem_cons.1 he with rfl | he
        · have := h3.tr (o2 i hi)
          rwa [Nat.zero_add] at this
        · exact h4 es he hz i hi
      · rcases h5 with h5 | ⟨es, he, hz, i, hi, h5⟩
        · rcases o3 with o3 | ⟨i, hi, o3⟩
          · exact .inl (h5.trans o3)
          · exact .inr ⟨ds, List.mem_cons_self .., hr, i, hi, by rw [h5, o3, Nat.zero_add]⟩
        · exact .inr ⟨es, List.mem_cons_of_mem _ he, hz, i, hi, h5⟩
      · rw [h6]
        constructor
        · rintro (hx | ⟨es, he, hz, hx⟩)
          · rcases List.mem_append.1 hx with hx | hx
            · exact .inl hx
            · exact .inr ⟨ds, List.mem_cons_self .., hr, by simpa using hx⟩
          · exact .inr ⟨es, List.mem_cons_of_mem _ he, hz, hx⟩
        · rintro (hx | ⟨es, he, hz, hx⟩)
          · exact .inl (List.mem_append_left _ hx)
          · rcases List.mem_cons.1 he with rfl | he
            · exact .inl (List.mem_append_right _ (by rw [hx]; simp))
            · exact .inr ⟨es, he, hz, hx⟩
    · have e : obF p s lim z ds = ⟨false, true, z.tl, z.ends⟩ := by unfold obF; rw [if_neg hr]
      rw [e] at h1 h2 h3 h4 h5 h6 ⊢
      dsimp only at h1 h2 h3 h5 h6
      refine ⟨?_, ?_, h3, fun es he hz i hi => ?_, ?_, fun x => ?_⟩
      · rw [h1, List.any_cons]; simp [hr]
      · rw [h2, List.all_cons]; simp [hr]
      · rcases List.mem_cons.1 he with rfl | he
        · exact absurd hz hr
        · exact h4 es he hz i hi
      · rcases h5 with h5 | ⟨es, he, hz, i, hi, h5⟩
        · exact .inl h5
        · exact .inr ⟨es, List.mem_cons_of_mem _ he, hz, i, hi, h5⟩
      · rw [h6]
        constructor
        · rintro (hx | ⟨es, he, hz, hx⟩)
          · exact .inl hx
          · exact .inr ⟨es, List.mem_cons_of_mem _ he, hz, hx⟩
        · rintro (hx | ⟨es, he, hz, hx⟩)
          · exact .inl hx
          · rcases List.mem_cons.1 he with rfl | he
            · exact absurd hz hr
            · exact .inr ⟨es, he, hz, hx⟩
theorem ob_len {p : Plt} {s : OSt} {lim : Int} : ∀ (L : List (List Int)) (z : ObS), (L.foldl (obF p s lim) z).ends.length ≤ z.ends.length + L.length
  | [], z => by simp
  | ds :: L, z => by
    rw [List.foldl_cons]
    have := ob_len (p := p) (s := s) (lim := lim) L (obF p s lim z ds)
    have h2 : (obF p s lim z ds).ends.length ≤ z.ends.length + 1 := by
      unfold obF
      split
      · simp
      · simp
    simp only [List.length_cons]
    omega
end
end Go.Proofs.YtbpcapcgbnbknaaGreat
