/-
  Texts of this claim, in their build order: OP12 OP13 OP5 OP14 OP15.
-/
import Derived.Test.YtjfedpblkejmkaaGreatPer25

namespace Go.Proofs.YtjfedpblkejmkaaGreat
open Go.RowKit

theorem cmpL_lt_le {l m k : List Int} (h1 : cmpL l m < 0) (h2 : cmpL m k ≤ 0) : cmpL l k < 0 := by
  rcases Int.lt_or_eq_of_le h2 with h | h
  · exact cmpL_trans h1 h
  · rw [← cmpL_zero h]; exact h1
abbrev wyQ (x : (OSt × List Int) × Int) : List Int := x.1.2 ++ [x.2]
def prsQ (now : List (OSt × List Int)) (r : Int × Int) : List ((OSt × List Int) × Int) := now.flatMap fun a => (rngL r).map fun n => (a, n)
theorem tkL_prs (p : Plt) (r : Int × Int) : ∀ (now : List (OSt × List Int)) (k : Tks), now.foldl (tkR p r) k = (prsQ now r).foldl (fun k x => tkD p x.1 k x.2) k
  | [], _ => rfl
  | a :: now, k => by
    unfold prsQ
    rw [List.flatMap_cons, List.foldl_append, List.foldl_cons, List.foldl_map]
    exact tkL_prs p r now _
theorem fold_lex {p : Plt} {s : OSt} {c : List (Int × Int)} {now : List (OSt × List Int)} {r : Int × Int} : ∀ (l : List ((OSt × List Int) × Int)) (k : Tks) (done : List (List Int)), StpL p s c now r k done → (∀ x ∈ l, goQ p s x.1.2 = some x.1.1) → l.Pairwise (fun x y => cmpL (wyQ x) (wyQ y) < 0) → (∀ w ∈ done, ∀ x ∈ l, cmpL w (wyQ x) < 0) →
    StpL p s c now r (l.foldl (fun k x => tkD p x.1 k x.2) k) (done ++ l.map wyQ)
  | [], k, done, h, _, _, _ => by simpa using h
  | x :: l, k, done, h, h1, h2, h3 => by
    have hp := List.pairwise_cons.1 h2
    have := fold_lex l _ _ (tkD_lex (n := x.2) h (h1 x (List.mem_cons_self ..)) (fun w hw => h3 w hw x (List.mem_cons_self ..))) (fun y hy => h1 y (List.mem_cons_of_mem _ hy)) hp.2 (fun w hw y hy => by
      rcases List.mem_append.1 hw with hw | hw
      · exact h3 w hw y (List.mem_cons_of_mem _ hy)
      · have e : w = wyQ x := by simpa using hw
        rw [e]; exact hp.1 y hy)
    rw [List.foldl_cons, List.map_cons]
    rw [List.append_assoc] at this
    exact this
theorem LvL.stp {p : Plt} {s : OSt} {c : List (Int × Int)} {now : List (OSt × List Int)} (h : LvL p s c now) (r : Int × Int) : StpL p s c now r (tkL p r now) ((prsQ now r).map wyQ) := by
  unfold tkL
  rw [tkL_prs]
  have := fold_lex (p := p) (s := s) (c := c) (now := now) (r := r) (prsQ now r) ⟨[], none⟩ [] ⟨List.Pairwise.nil, fun _ h => (by cases h), fun _ h => (by cases h), fun _ h => (by cases h)⟩ (fun x hx => ?_) ?_ (fun _ h => (by cases h))
  · rw [List.nil_append] at this; exact this
  · obtain ⟨a, ha, hx⟩ := List.mem_flatMap.1 hx
    obtain ⟨n, -, rfl⟩ := List.mem_map.1 hx
    exact (h.ok.way a ha).2
  · unfold prsQ
    rw [List.pairwise_flatMap]
    refine ⟨fun a ha => ?_, ?_⟩
    · rw [List.pairwise_map]
      refine List.Pairwise.imp ?_ (rngL_srt r)
      intro x y hxy
      show cmpL (a.2 ++ [x]) (a.2 ++ [y]) < 0
      rw [cmpL_app rfl, cmpL_self, if_pos rfl, cmpL_one, if_pos hxy]; decide
    · refine List.Pairwise.imp_of_mem ?_ h.srt
      intro a b ha hb hab x hx y hy
      obtain ⟨m, -, rfl⟩ := List.mem_map.1 hx
      obtain ⟨n, -, rfl⟩ := List.mem_map.1 hy
      show cmpL (a.2 ++ [m]) (b.2 ++ [n]) < 0
      rw [cmpL_app (by rw [(h.ok.way a ha).1.1, (h.ok.way b hb).1.1]), if_neg (by omega)]
      exact hab
theorem LvL.cand {p : Plt} {s : OSt} {c : List (Int × Int)} {now : List (OSt × List Int)} (h : LvL p s c now) {r : Int × Int} {ds : List Int} (hd : inC (c ++ [r]) ds) : ∃ w ∈ (prsQ now r).map wyQ, goQ p s w = goQ p s ds ∧ cmpL w ds ≤ 0 := by
  obtain ⟨es, n, rfl, he, hn⟩ := inC_snoc.1 hd
  obtain ⟨t, ht, -⟩ := h.ok.all es he
  obtain ⟨a, ha, e, hc⟩ := h.fst es t he ht
  refine ⟨a.2 ++ [n], List.mem_map.2 ⟨(a, n), List.mem_flatMap.2 ⟨a, ha, List.mem_map.2 ⟨n, hn, rfl⟩⟩, rfl⟩, ?_, ?_⟩
  · rw [goQ_snoc, goQ_snoc, ht, (h.ok.way a ha).2, e]
  · rw [cmpL_app (by rw [(h.ok.way a ha).1.1, he.1]), cmpL_self]
    split <;> omega
theorem LvL.start (p : Plt) (s : OSt) : LvL p s [] [(s, [])] :=
  ⟨LvOk.start p s, by unfold SrtW; simp, fun ds t hd ht => by
    rw [inC_nil.1 hd] at ht ⊢
    cases ht
    exact ⟨(s, []), by simp, rfl, by rw [cmpL_self]; exact Int.le_refl _⟩⟩
theorem LvL.next {p : Plt} {s : OSt} {c : List (Int × Int)} {r : Int × Int} {now : List (OSt × List Int)} (h : LvL p s c now) (he : (tkL p r now).emp = none) : LvL p s (c ++ [r]) (tkL p r now).aft := by
  have hs := h.stp r
  refine ⟨h.ok.next he, hs.srt, fun ds t hd ht => ?_⟩
  obtain ⟨w, hw, hg, hc⟩ := h.cand hd
  obtain ⟨a, ha, e, hc2⟩ := (hs.fst w hw).1 t (by rw [hg]; exact ht)
  exact ⟨a, ha, e, cmpL_le hc2 hc⟩
/-- The first bad state of a level has the first bad way. -/
theorem find_first {p : Plt} {lim : Int} {now : List (OSt × List Int)} (hs : SrtW now) {a b : OSt × List Int} (hf : now.find? (fun a => blwQ p lim a.1) = some a) (hb : b ∈ now) (hbb : blwQ p lim b.1 = true) : cmpL a.2 b.2 ≤ 0 := by
  induction now with
  | nil => cases hb
  | cons x now ih =>
    have hp := List.pairwise_cons.1 hs
    by_cases hx : blwQ p lim x.1 = true
    · rw [List.find?_cons_of_pos (p := fun a : OSt × List Int => blwQ p lim a.1) hx] at hf
      cases hf
      rcases List.mem_cons.1 hb with rfl | hb
      · rw [cmpL_self]; exact Int.le_refl _
      · exact Int.le_of_lt (hp.1 b hb)
    · rw [List.find?_cons_of_neg (p := fun a : OSt × List Int => blwQ p lim a.1) hx] at hf
      rcases List.mem_cons.1 hb with rfl | hb
      · exact absurd hbb hx
      · exact ih hp.2 hf hb
theorem LvL.least {p : Plt} {s : OSt} {c : List (Int × Int)} {now : List (OSt × List Int)} {lim : Int} (h : LvL p s c now) {a : OSt × List Int} (hf : now.find? (fun a => blwQ p lim a.1) = some a) {ds : List Int} (hd : inC c ds) (hb : ¬ GdQ p s lim ds) : cmpL a.2 ds ≤ 0 := by
  obtain ⟨t, ht, -⟩ := h.ok.all ds hd
  obtain ⟨b, hbm, e, hc⟩ := h.fst ds t hd ht
  have hbb : blwQ p lim b.1 = true := by
    rw [e]
    cases hx : blwQ p lim t
    · exact absurd ⟨t, ht, hx⟩ hb
    · rfl
  exact cmpL_le (find_first h.srt hf hbm hbb) hc
theorem wit_least {p : Plt} {s : OSt} {lim : Int} : ∀ (rs pre : List (Int × Int)) (now : List (OSt × List Int)), LvL p s pre now → ∀ w, witA p lim (tks p rs now) = some w → ∀ ds, inC ((pre ++ rs).take w.length) ds → ¬ GdQ p s lim ds → cmpL w ds ≤ 0 := by
  intro rs
  induction rs with
  | nil =>
    intro pre now h w hw ds hd hb
    unfold tks witA at hw
    rw [List.append_nil] at hd
    cases hf : now.find? (fun a => blwQ p lim a.1) with
    | some a =>
      rw [hf] at hw
      dsimp only at hw
      cases hw
      rw [(h.ok.way.bad hf).1.1, List.take_length] at hd
      exact h.least hf hd hb
    | none =>
      rw [hf] at hw
      dsimp only at hw
      unfold witA at hw
      cases hw
  | cons r rs ih =>
    intro pre now h w hw ds hd hb
    unfold tks witA at hw
    cases hf : now.find? (fun a => blwQ p lim a.1) with
    | some a =>
      rw [hf] at hw
      dsimp only at hw
      cases hw
      rw [(h.ok.way.bad hf).1.1, take_pre] at hd
      exact h.least hf hd hb
    | none =>
      rw [hf] at hw
      dsimp only at hw
      cases he : (tkL p r now).emp with
      | none =>
        rw [he] at hw
        dsimp only at hw
        have := ih (pre ++ [r]) (tkL p r now).aft (h.next he) w hw ds
        rw [show (pre ++ [r]) ++ rs = pre ++ r :: rs by simp] at this
        exact this hd hb
      | some e =>
        rw [he] at hw
        dsimp only at hw
        have hst := h.stp r
        have hway := tkL_way (r := r) h.ok.way
        have he1 := (hway.2 e he).1
        -- the bad ways of this length
        have key : inC (pre ++ [r]) ds → (cmpL e ds ≤ 0) ∨ ∃ a, (tkL p r now).aft.find? (fun a => blwQ p lim a.1) = some a ∧ cmpL a.2 ds ≤ 0 := by
          intro hd
          obtain ⟨v, hv, hg, hc⟩ := h.cand hd
          obtain ⟨f1, f2⟩ := hst.fst v hv
          cases hgo : goQ p s ds with
          | none =>
            obtain ⟨e', he', hc'⟩ := f2 (by rw [hg]; exact hgo)
            rw [he] at he'
            cases he'
            exact .inl (cmpL_le hc' hc)
          | some t =>
            obtain ⟨b, hbm, eb, hc'⟩ := f1 t (by rw [hg]; exact hgo)
            have hbb : blwQ p lim b.1 = true := by
              rw [eb]
              cases hx : blwQ p lim t
              · exact absurd ⟨t, hgo, hx⟩ hb
              · rfl
            cases hf2 : (tkL p r now).aft.find? (fun a => blwQ p lim a.1) with
            | none => exact absurd hbb (by simpa using List.find?_eq_none.1 hf2 b hbm)
            | some a => exact .inr ⟨a, rfl, cmpL_le (find_first hst.srt hf2 hbm hbb) (cmpL_le hc' hc)⟩
        unfold witA at hw
        cases hf2 : (tkL p r now).aft.find? (fun a => blwQ p lim a.1) with
        | some a =>
          rw [hf2] at hw
          dsimp only at hw
          have ha1 := (hway.1.bad hf2).1
          by_cases hlt : cmpL a.2 e < 0
          · rw [if_pos hlt] at hw
            cases hw
            have el := ha1.1
            rw [List.length_append, List.length_singleton] at el
            rw [el, take_pre1] at hd
            rcases key hd with k | ⟨b, hb2, k⟩
            · exact Int.le_of_lt (cmpL_lt_le hlt k)
            · rw [hf2] at hb2; cases hb2; exact k
          · rw [if_neg hlt] at hw
            cases hw
            have el := he1.1
            rw [List.length_append, List.length_singleton] at el
            rw [el, take_pre1] at hd
            rcases key hd with k | ⟨b, hb2, k⟩
            · exact k
            · rw [hf2] at hb2; cases hb2
              have : cmpL w a.2 ≤ 0 := by rw [cmpL_swap]; omega
              exact cmpL_le this k
        | none =>
          rw [hf2] at hw
          dsimp only at hw
          cases hw
          have el := he1.1
          rw [List.length_append, List.length_singleton] at el
          rw [el, take_pre1] at hd
          rcases key hd with k | ⟨b, hb2, k⟩
          · exact k
          · rw [hf2] at hb2; cases hb2

end Go.Proofs.YtjfedpblkejmkaaGreat

namespace Go.Proofs.YtjfedpblkejmkaaGreat
open Go.RowKit

theorem prm_iff {p : Plt} {lim : Int} (t : OSt) (rs : List (Int × Int)) : prmR p lim [t] rs = true ↔ ∀ k, k ≤ rs.length → ∀ ds, inC (rs.take k) ds → GdQ p t lim ds := by
  obtain ⟨h1, h2⟩ := wit_law (p := p) (s := t) (lim := lim) rs [] [(t, [])] (LvOk.start p t)
  rw [prm_law rs [(t, [])] [t] (fun x => by simp [sts])]
  rw [List.nil_append] at h1 h2
  cases hw : witA p lim (tks p rs [(t, [])]) with
  | none => exact ⟨fun _ k hk => h2 hw k (Nat.zero_le _) hk, fun _ => rfl⟩
  | some w =>
    have := h1 w hw
    exact ⟨fun h => by simp at h, fun h => absurd (h w.length this.len w this.cls) this.bad⟩
theorem gi_cons (n : Int) (ds : List Int) (i : Nat) : gi (n :: ds) (i + 1) = gi ds i := rfl
theorem fg_cons (r : Int × Int) (rs : List (Int × Int)) (i : Nat) : fg (r :: rs) (i + 1) = fg rs i := rfl
theorem inC_cons {r : Int × Int} {rs : List (Int × Int)} {n : Int} {ds : List Int} : inC (r :: rs) (n :: ds) ↔ n ∈ rngL r ∧ inC rs ds := by
  unfold inC
  rw [List.length_cons, List.length_cons]
  constructor
  · rintro ⟨hl, h⟩
    exact ⟨h 0 (by omega), by omega, fun i hi => by have := h (i + 1) (by omega); rwa [gi_cons, fg_cons] at this⟩
  · rintro ⟨hn, hl, h⟩
    refine ⟨by omega, fun i hi => ?_⟩
    cases i with
    | zero => exact hn
    | succ i => rw [gi_cons, fg_cons]; exact h i (by omega)
theorem inC_ex {r : Int × Int} {rs : List (Int × Int)} {ds : List Int} (h : inC (r :: rs) ds) : ∃ n es, ds = n :: es := by
  cases ds with
  | nil => have := h.1; simp at this
  | cons n es => exact ⟨n, es, rfl⟩
theorem Gd_cons {p : Plt} {s : OSt} {lim n : Int} {ds : List Int} : GdQ p s lim (n :: ds) ↔ ∃ t, nxtA p s n = some t ∧ GdQ p t lim ds := by
  unfold GdQ
  have e : goQ p s (n :: ds) = (nxtA p s n).bind fun t => goQ p t ds := rfl
  rw [e]
  cases h : nxtA p s n with
  | none => simp
  | some t => simp
/-- Can the rest still be bad behind this demand? -/
def stlB (p : Plt) (lim : Int) (s : OSt) (rs : List (Int × Int)) (n : Int) : Bool := match nxtA p s n with
  | none => true
  | some t => !prmR p lim [t] rs
def witG (p : Plt) (lim : Int) : OSt → List (Int × Int) → List Int
  | _, [] => []
  | s, r :: rs => match (rngL r).find? (stlB p lim s rs) with
    | none => witG p lim s rs
    | some n => n :: witG p lim ((nxtA p s n).getD (0, false)) rs
theorem stl_iff {p : Plt} {lim : Int} {s : OSt} {r : Int × Int} {rs : List (Int × Int)} (H : ∀ j, j < (r :: rs).length → ∀ ds, inC ((r :: rs).take j) ds → GdQ p s lim ds) {n : Int} (hn : n ∈ rngL r) : stlB p lim s rs n = true ↔ ∃ ds, inC rs ds ∧ ¬ GdQ p s lim (n :: ds) := by
  have one : nxtA p s n = none → rs = [] := fun h => by
    cases rs with
    | nil => rfl
    | cons q rs =>
      have := H 1 (by simp) [n] (by rw [List.take_succ_cons, List.take_zero]; exact inC_cons.2 ⟨hn, inC_nil.2 rfl⟩)
      obtain ⟨t, ht, -⟩ := Gd_cons.1 this
      rw [h] at ht; cases ht
  unfold stlB
  cases h : nxtA p s n with
  | none =>
    have e := one h
    subst e
    exact ⟨fun _ => ⟨[], inC_nil.2 rfl, fun hg => (by obtain ⟨t, ht, -⟩ := Gd_cons.1 hg; rw [h] at ht; cases ht)⟩, fun _ => rfl⟩
  | some t =>
    dsimp only
    rw [Bool.not_eq_true', ← Bool.not_eq_true, prm_iff]
    constructor
    · intro hnp
      obtain ⟨k, hk⟩ := Classical.not_forall.1 hnp
      obtain ⟨hkl, hk⟩ := Classical.not_imp.1 hk
      obtain ⟨ds, hk⟩ := Classical.not_forall.1 hk
      obtain ⟨hd, hb⟩ := Classical.not_imp.1 hk
      have hb' : ¬ GdQ p s lim (n :: ds) := fun hg => by
        obtain ⟨u, hu, hg⟩ := Gd_cons.1 hg
        rw [h] at hu
        cases hu
        exact hb hg
      rcases Nat.lt_or_ge k rs.length with hlt | hge
      · exact absurd (H (k + 1) (by rw [List.length_cons]; omega) (n :: ds) (by rw [List.take_succ_cons]; exact inC_cons.2 ⟨hn, hd⟩)) hb'
      · rw [List.take_of_length_le hge] at hd
        exact ⟨ds, hd, hb'⟩
    · rintro ⟨ds, hd, hb⟩ hp
      refine hb (Gd_cons.2 ⟨t, h, hp rs.length (Nat.le_refl _) ds ?_⟩)
      rw [List.take_length]; exact hd
theorem find_least {f : Int → Bool} : ∀ {l : List Int}, l.Pairwise (· < ·) → ∀ {n m : Int}, l.find? f = some n → m ∈ l → f m = true → n ≤ m
  | [], _, _, _, h, _, _ => by cases h
  | x :: l, hp, n, m, h, hm, hf => by
    have hp' := List.pairwise_cons.1 hp
    by_cases hx : f x = true
    · rw [List.find?_cons_of_pos hx] at h
      cases h
      rcases List.mem_cons.1 hm with e | hm
      · omega
      · exact Int.le_of_lt (hp'.1 m hm)
    · rw [List.find?_cons_of_neg hx] at h
      rcases List.mem_cons.1 hm with e | hm
      · subst e; exact absurd hf hx
      · exact find_least hp'.2 h hm hf
theorem grd_law {p : Plt} {lim : Int} : ∀ (c : List (Int × Int)) (s : OSt), (∀ j, j < c.length → ∀ ds, inC (c.take j) ds → GdQ p s lim ds) → (∃ ds, inC c ds ∧ ¬ GdQ p s lim ds) →
    inC c (witG p lim s c) ∧ ¬ GdQ p s lim (witG p lim s c) ∧ ∀ ds, inC c ds → ¬ GdQ p s lim ds → cmpL (witG p lim s c) ds ≤ 0
  | [], s, _, ⟨ds, hd, hb⟩ => by
    have e := inC_nil.1 hd
    subst e
    exact ⟨inC_nil.2 rfl, hb, fun es he _ => by rw [inC_nil.1 he]; exact Int.le_refl _⟩
  | r :: rs, s, H, ⟨ds, hd, hb⟩ => by
    obtain ⟨n0, es, rfl⟩ := inC_ex hd
    obtain ⟨hn0, he⟩ := inC_cons.1 hd
    have h0 := (stl_iff H hn0).2 ⟨es, he, hb⟩
    unfold witG
    cases hf : (rngL r).find? (stlB p lim s rs) with
    | none => exact absurd h0 (List.find?_eq_none.1 hf n0 hn0)
    | some n =>
      dsimp only
      have hn := List.mem_of_find?_eq_some hf
      have hs := List.find?_some hf
      obtain ⟨fs, hfs, hbf⟩ := (stl_iff H hn).1 hs
      have least : ∀ m ds, inC (r :: rs) (m :: ds) → ¬ GdQ p s lim (m :: ds) → n ≤ m := fun m ds h1 h2 => by
        obtain ⟨hm, hd'⟩ := inC_cons.1 h1
        exact find_least (rngL_srt r) hf hm ((stl_iff H hm).2 ⟨ds, hd', h2⟩)
      cases ht : nxtA p s n with
      | none =>
        have hrs : rs = [] := by
          cases rs with
          | nil => rfl
          | cons q rs =>
            have := H 1 (by simp) [n] (by rw [List.take_succ_cons, List.take_zero]; exact inC_cons.2 ⟨hn, inC_nil.2 rfl⟩)
            obtain ⟨t, ht', -⟩ := Gd_cons.1 this
            rw [ht] at ht'; cases ht'
        subst hrs
        have e : witG p lim ((none : Option OSt).getD (0, false)) [] = [] := rfl
        rw [e]
        refine ⟨inC_cons.2 ⟨hn, inC_nil.2 rfl⟩, fun hg => (by obtain ⟨t, ht', -⟩ := Gd_cons.1 hg; rw [ht] at ht'; cases ht'), fun ds h1 h2 => ?_⟩
        obtain ⟨m, xs, rfl⟩ := inC_ex h1
        have hle := least m xs h1 h2
        have := inC_nil.1 (inC_cons.1 h1).2
        subst this
        rw [cmpL_one]
        split <;> (try split) <;> omega
      | some t =>
        rw [Option.getD_some]
        have hbt : ∀ {ds}, ¬ GdQ p s lim (n :: ds) → ¬ GdQ p t lim ds := fun h hg => h (Gd_cons.2 ⟨t, ht, hg⟩)
        obtain ⟨i1, i2, i3⟩ := grd_law (p := p) (lim := lim) rs t (fun j hj ds hd => by
          have := H (j + 1) (by rw [List.length_cons]; omega) (n :: ds) (by rw [List.take_succ_cons]; exact inC_cons.2 ⟨hn, hd⟩)
          obtain ⟨u, hu, hg⟩ := Gd_cons.1 this
          rw [ht] at hu
          cases hu
          exact hg) ⟨fs, hfs, hbt hbf⟩
        refine ⟨inC_cons.2 ⟨hn, i1⟩, fun hg => ?_, fun ds h1 h2 => ?_⟩
        · obtain ⟨u, hu, hg⟩ := Gd_cons.1 hg
          rw [ht] at hu
          cases hu
          exact i2 hg
        · obtain ⟨m, xs, rfl⟩ := inC_ex h1
          have hle := least m xs h1 h2
          rw [cmpL_cons]
          by_cases hlt : n < m
          · rw [if_pos hlt]; decide
          · have e : n = m := by omega
            subst e
            rw [if_neg hlt, if_neg hlt]
            exact i3 xs (inC_cons.1 h1).2 (hbt h2)
/-- How many ticks the reference takes: the fewest of which the class is not permitted. -/
theorem wit_ref {p : Plt} {s : OSt} {lim : Int} {c : List (Int × Int)} {w : List Int} (hw : witA p lim (tks p c [(s, [])]) = some w) :
    w.length ≤ c.length ∧ (∀ k, k < w.length → prmR p lim [s] (c.take k) = true) ∧ prmR p lim [s] (c.take w.length) = false ∧ witG p lim s (c.take w.length) = w := by
  have hl := (wit_law (p := p) (s := s) (lim := lim) c [] [(s, [])] (LvOk.start p s)).1 w hw
  have hle := wit_least (p := p) (s := s) (lim := lim) c [] [(s, [])] (LvL.start p s) w hw
  rw [List.nil_append] at hl hle
  have low : ∀ j, j < w.length → ∀ ds, inC (c.take j) ds → GdQ p s lim ds := fun j hj ds hd => hl.low j hj (Nat.zero_le _) ds hd
  have lenT : (c.take w.length).length = w.length := by rw [List.length_take]; have := hl.len; omega
  have tt : ∀ {j k}, j ≤ k → (c.take k).take j = c.take j := fun {j k} h => by rw [List.take_take, Nat.min_eq_left h]
  refine ⟨hl.len, fun k hk => (prm_iff s _).2 fun j hj ds hd => ?_, ?_, ?_⟩
  · rw [List.length_take] at hj
    rw [tt (by omega)] at hd
    exact low j (by omega) ds hd
  · rw [← Bool.not_eq_true]
    intro h
    exact hl.bad ((prm_iff s _).1 h w.length (by omega) w (by rw [tt (Nat.le_refl _)]; exact hl.cls))
  · obtain ⟨g1, g2, g3⟩ := grd_law (p := p) (lim := lim) (c.take w.length) s (fun j hj ds hd => by
      rw [lenT] at hj
      rw [tt (by omega)] at hd
      exact low j hj ds hd) ⟨w, hl.cls, hl.bad⟩
    have a := g3 w hl.cls hl.bad
    have b := hle _ g1 g2
    rw [cmpL_swap] at b
    exact cmpL_zero (by omega)

end Go.Proofs.YtjfedpblkejmkaaGreat

namespace Go.Proofs.YtjfedpblkejmkaaGreat
open Go.RowKit

/-- The error of a state of a set that is to be safe. -/
def jdg (p : Plt) (dem : Int × Int) (lim : Int) (s : OSt) (S : OSt → Bool) : Int :=
  if lessQ (prQ p.pts s.1) (lim, 1) then 22 else if (nxtA p s dem.2).isNone then 22 else if (rngL dem).all (fun n => S ((nxtA p s n).getD (0, false))) then 0 else 21
theorem jdg_mono {p : Plt} {dem : Int × Int} {lim : Int} {s : OSt} {S T : OSt → Bool} (h : ∀ x, S x = true → T x = true) (hj : jdg p dem lim s S = 0) : jdg p dem lim s T = 0 := by
  unfold jdg at *
  by_cases h1 : lessQ (prQ p.pts s.1) (lim, 1) = true
  · rw [if_pos h1] at hj; exact absurd hj (by decide)
  · rw [if_neg h1] at *
    by_cases h2 : (nxtA p s dem.2).isNone = true
    · rw [if_pos h2] at hj; exact absurd hj (by decide)
    · rw [if_neg h2] at *
      by_cases h3 : ((rngL dem).all fun n => S ((nxtA p s n).getD (0, false))) = true
      · rw [if_pos]
        rw [List.all_eq_true] at *
        exact fun n hn => h _ (h3 n hn)
      · rw [if_neg h3] at hj; exact absurd hj (by decide)
def inS (l : List OSt) (s : OSt) : Bool := l.any (· == s)
theorem inS_iff {l : List OSt} {s : OSt} : inS l s = true ↔ s ∈ l := by
  unfold inS
  rw [List.any_eq_true]
  constructor
  · rintro ⟨x, hx, e⟩
    have : x = s := by simpa using e
    subst this; exact hx
  · exact fun h => ⟨s, h, by simp⟩
/-- A set each of whose states is judged well. -/
def Clo (p : Plt) (dem : Int × Int) (lim : Int) (S : OSt → Bool) : Prop := ∀ s, S s = true → jdg p dem lim s S = 0
/-- All states of a plant, in order. -/
def allS (p : Plt) : List OSt := (List.range (capV p.pts + 1).toNat).flatMap fun (v : Nat) => [((v : Int), false), ((v : Int), true)]
theorem mem_allS {p : Plt} {s : OSt} : s ∈ allS p ↔ StOk p s := by
  obtain ⟨v, r⟩ := s
  unfold allS StOk
  rw [List.mem_flatMap]
  constructor
  · rintro ⟨k, hk, h⟩
    rw [List.mem_range] at hk
    simp only [List.mem_cons, List.not_mem_nil, or_false, Prod.mk.injEq] at h
    dsimp only
    omega
  · rintro ⟨h1, h2⟩
    dsimp only at h1 h2
    refine ⟨v.toNat, List.mem_range.2 (by omega), ?_⟩
    have e : ((v.toNat : Nat) : Int) = v := by omega
    cases r <;> simp [e]
theorem srt_allS (p : Plt) : SrtS (allS p) := by
  unfold allS SrtS
  rw [List.pairwise_flatMap]
  refine ⟨fun v _ => ?_, ?_⟩
  · simp [ltS]
  · refine List.Pairwise.imp ?_ List.pairwise_lt_range
    intro a b hab x hx y hy
    simp only [List.mem_cons, List.not_mem_nil, or_false] at hx hy
    unfold ltS
    rcases hx with rfl | rfl <;> rcases hy with rfl | rfl <;> simp <;> omega
def itS (p : Plt) (dem : Int × Int) (lim : Int) (l : List OSt) : List OSt := l.filter fun s => jdg p dem lim s (inS l) == 0
theorem itS_le (p : Plt) (dem : Int × Int) (lim : Int) (l : List OSt) : (itS p dem lim l).length ≤ l.length := List.length_filter_le ..
/-- The reference's way: again and again. -/
def safL (p : Plt) (dem : Int × Int) (lim : Int) : Nat → List OSt → List OSt
  | 0, l => l
  | n + 1, l => if (itS p dem lim l).length = l.length then l else safL p dem lim n (itS p dem lim l)
def safS (p : Plt) (dem : Int × Int) (lim : Int) : List OSt := safL p dem lim (allS p).length (allS p)
theorem filter_all {α : Type} {f : α → Bool} : ∀ {l : List α}, (l.filter f).length = l.length → ∀ x ∈ l, f x = true
  | [], _, x, hx => by cases hx
  | a :: l, h, x, hx => by
    by_cases ha : f a = true
    · rw [List.filter_cons_of_pos ha] at h
      simp only [List.length_cons, Nat.add_right_cancel_iff] at h
      rcases List.mem_cons.1 hx with rfl | hx
      · exact ha
      · exact filter_all h x hx
    · rw [List.filter_cons_of_neg ha] at h
      have := List.length_filter_le f l
      simp only [List.length_cons] at h
      omega
theorem safL_spec {p : Plt} {dem : Int × Int} {lim : Int} : ∀ (n : Nat) (l : List OSt), l.length ≤ n → Clo p dem lim (inS (safL p dem lim n l)) ∧ (∀ x ∈ safL p dem lim n l, x ∈ l) ∧ (∀ S, Clo p dem lim S → (∀ x, S x = true → x ∈ l) → ∀ x, S x = true → x ∈ safL p dem lim n l) ∧ (SrtS l → SrtS (safL p dem lim n l))
  | 0, l, h => by
    have e : l = [] := List.length_eq_zero_iff.1 (by omega)
    subst e
    refine ⟨fun s hs => ?_, fun x hx => hx, fun S _ h2 x hx => h2 x hx, fun h => h⟩
    have := inS_iff.1 hs; cases this
  | n + 1, l, h => by
    unfold safL
    by_cases he : (itS p dem lim l).length = l.length
    · rw [if_pos he]
      refine ⟨fun s hs => ?_, fun x hx => hx, fun S _ h2 x hx => h2 x hx, fun h => h⟩
      have := filter_all he s (inS_iff.1 hs)
      simpa using this
    · rw [if_neg he]
      have hlt := itS_le p dem lim l
      obtain ⟨h1, h2, h3, h4⟩ := safL_spec (p := p) (dem := dem) (lim := lim) n (itS p dem lim l) (by omega)
      refine ⟨h1, fun x hx => (List.mem_filter.1 (h2 x hx)).1, fun S hS hin x hx => h3 S hS (fun y hy => ?_) x hx, fun hs => h4 (List.Pairwise.filter _ hs)⟩
      refine List.mem_filter.2 ⟨hin y hy, ?_⟩
      have := jdg_mono (fun z hz => inS_iff.2 (hin z hz)) (hS y hy)
      rw [this]; rfl
/-- Whatever takes away only states that are judged ill, and stops when none is left to be taken away, is left with these. -/
theorem saf_any {p : Plt} {dem : Int × Int} {lim : Int} {S : OSt → Bool} (h1 : Clo p dem lim S) (h2 : ∀ x, S x = true → x ∈ allS p) (h3 : ∀ x ∈ safS p dem lim, S x = true) (x : OSt) : S x = true ↔ x ∈ safS p dem lim :=
  ⟨(safL_spec _ _ (Nat.le_refl _)).2.2.1 S h1 h2 x, h3 x⟩
/-- One that is judged ill in a greater set is not among them. -/
theorem saf_step {p : Plt} {dem : Int × Int} {lim : Int} {S : OSt → Bool} {s : OSt} (h3 : ∀ x ∈ safS p dem lim, S x = true) (hj : jdg p dem lim s S ≠ 0) : s ∉ safS p dem lim := fun hs =>
  hj (jdg_mono (fun z hz => h3 z (inS_iff.1 hz)) ((safL_spec _ _ (Nat.le_refl _)).1 s (inS_iff.2 hs)))

end Go.Proofs.YtjfedpblkejmkaaGreat

namespace Go.Proofs.YtjfedpblkejmkaaGreat
open Go.RowKit

theorem allS_len {p : Plt} (_h : 0 ≤ capV p.pts) : (allS p).length = 2 * (capV p.pts + 1).toNat := by
  unfold allS
  generalize (capV p.pts + 1).toNat = n
  induction n with
  | zero => rfl
  | succ n ih => rw [List.range_succ, List.flatMap_append, List.length_append, ih]; simp; omega

end Go.Proofs.YtjfedpblkejmkaaGreat

namespace Go.Proofs.YtjfedpblkejmkaaGreat
open Go.RowKit

/-- The plants of the examples. -/
def exP : Plt := ⟨[(0, 100), (10, 150), (30, 200)], 4, 150, 190⟩
def exS : Plt := ⟨[(0, 10), (4, 50)], 2, 30, 50⟩
def exC : List (Int × Int) := [(10, 12), (0, 2)]
theorem exS_saf : safS exS (0, 2) 20 = [(1, true), (2, true), (3, false), (3, true), (4, false), (4, true)] := by decide

end Go.Proofs.YtjfedpblkejmkaaGreat

