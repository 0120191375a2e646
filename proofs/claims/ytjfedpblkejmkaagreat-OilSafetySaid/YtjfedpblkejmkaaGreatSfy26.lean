/-
  Texts of this claim, in their build order: OP11 OP12 OP5 OP14 OP15.
-/
import Derived.Test.YtjfedpblkejmkaaGreatSfy25

/-
  Plain laws of classes: the demands of a level are the lexicographically first ones that lead to its states.
-/
namespace Go.Proofs.YtjfedpblkejmkaaGreat
open Go.RowKit

theorem cmpL_self : ∀ l : List Int, cmpL l l = 0
  | [] => rfl
  | a :: l => by unfold cmpL; rw [if_neg (Int.lt_irrefl a), if_neg (Int.lt_irrefl a)]; exact cmpL_self l
theorem cmpL_zero : ∀ {l m : List Int}, cmpL l m = 0 → l = m
  | [], [], _ => rfl
  | [], _ :: _, h => by unfold cmpL at h; omega
  | _ :: _, [], h => by unfold cmpL at h; omega
  | a :: l, b :: m, h => by
    unfold cmpL at h
    split at h
    · omega
    · split at h
      · omega
      · rw [cmpL_zero h, show a = b by omega]
theorem cmpL_trans : ∀ {l m k : List Int}, cmpL l m < 0 → cmpL m k < 0 → cmpL l k < 0
  | [], [], _, h, _ => by unfold cmpL at h; omega
  | [], _ :: _, [], _, h => by unfold cmpL at h; omega
  | [], _ :: _, _ :: _, _, _ => by unfold cmpL; omega
  | _ :: _, [], _, h, _ => by unfold cmpL at h; omega
  | _ :: _, _ :: _, [], _, h => by unfold cmpL at h; omega
  | a :: l, b :: m, c :: k, h1, h2 => by
    unfold cmpL at h1 h2 ⊢
    rcases Int.lt_trichotomy a b with e1 | e1 | e1
    · rcases Int.lt_trichotomy b c with e2 | e2 | e2
      · rw [if_pos (by omega)]; decide
      · rw [if_pos (by omega)]; decide
      · rw [if_neg (by omega), if_pos e2] at h2; omega
    · subst e1
      rw [if_neg (Int.lt_irrefl a), if_neg (Int.lt_irrefl a)] at h1
      rcases Int.lt_trichotomy a c with e2 | e2 | e2
      · rw [if_pos e2]; decide
      · subst e2
        rw [if_neg (Int.lt_irrefl a), if_neg (Int.lt_irrefl a)] at h2 ⊢
        exact cmpL_trans h1 h2
      · rw [if_neg (by omega), if_pos e2] at h2; omega
    · rw [if_neg (by omega), if_pos e1] at h1; omega
theorem cmpL_le_lt {l m k : List Int} (h1 : cmpL l m ≤ 0) (h2 : cmpL m k < 0) : cmpL l k < 0 := by
  rcases Int.lt_or_eq_of_le h1 with h | h
  · exact cmpL_trans h h2
  · rw [cmpL_zero h]; exact h2
theorem cmpL_le {l m k : List Int} (h1 : cmpL l m ≤ 0) (h2 : cmpL m k ≤ 0) : cmpL l k ≤ 0 := by
  rcases Int.lt_or_eq_of_le h2 with h | h
  · exact Int.le_of_lt (cmpL_le_lt h1 h)
  · rw [← cmpL_zero h]; exact h1
theorem cmpL_cons (a b : Int) (l m : List Int) : cmpL (a :: l) (b :: m) = if a < b then -1 else if b < a then 1 else cmpL l m := rfl
theorem cmpL_app : ∀ {l m : List Int}, l.length = m.length → ∀ x y, cmpL (l ++ x) (m ++ y) = if cmpL l m = 0 then cmpL x y else cmpL l m
  | [], [], _, x, y => by simp [cmpL]
  | [], _ :: _, h, _, _ => by simp at h
  | _ :: _, [], h, _, _ => by simp at h
  | a :: l, b :: m, h, x, y => by
    have ih := cmpL_app (l := l) (m := m) (by simpa using h) x y
    rw [List.cons_append, List.cons_append, cmpL_cons, cmpL_cons]
    by_cases h1 : a < b
    · rw [if_pos h1, if_pos h1, if_neg (by decide)]
    · rw [if_neg h1, if_neg h1]
      by_cases h2 : b < a
      · rw [if_pos h2, if_pos h2, if_neg (by decide)]
      · rw [if_neg h2, if_neg h2]; exact ih
theorem cmpL_one (a b : Int) : cmpL [a] [b] = if a < b then -1 else if b < a then 1 else 0 := rfl
/-- A list of ways, in order. -/
def SrtW (l : List (OSt × List Int)) : Prop := l.Pairwise fun a b => cmpL a.2 b.2 < 0
theorem rngL_srt (r : Int × Int) : (rngL r).Pairwise (· < ·) := by
  unfold rngL
  rw [List.pairwise_map]
  exact List.Pairwise.imp (fun h => by omega) List.pairwise_lt_range
/-- The level is in order, and its ways are the first ones. -/
structure LvL (p : Plt) (s : OSt) (c : List (Int × Int)) (now : List (OSt × List Int)) : Prop where
  ok : LvOk p s c now
  srt : SrtW now
  fst : ∀ ds t, inC c ds → goQ p s ds = some t → ∃ a ∈ now, a.1 = t ∧ cmpL a.2 ds ≤ 0
/-- While the next level is found: behind all ways before w. -/
structure StpL (p : Plt) (s : OSt) (c : List (Int × Int)) (now : List (OSt × List Int)) (r : Int × Int) (k : Tks) (done : List (List Int)) : Prop where
  srt : SrtW k.aft
  sub : ∀ a ∈ k.aft, a.2 ∈ done
  emp : ∀ e, k.emp = some e → e ∈ done
  fst : ∀ w ∈ done, (∀ t, goQ p s w = some t → ∃ a ∈ k.aft, a.1 = t ∧ cmpL a.2 w ≤ 0) ∧ (goQ p s w = none → ∃ e, k.emp = some e ∧ cmpL e w ≤ 0)
theorem tkD_lex {p : Plt} {s : OSt} {c : List (Int × Int)} {now : List (OSt × List Int)} {r : Int × Int} {k : Tks} {done : List (List Int)} {a : OSt × List Int} {n : Int} (h : StpL p s c now r k done) (ha : goQ p s a.2 = some a.1)
    (hd : ∀ w ∈ done, cmpL w (a.2 ++ [n]) < 0) : StpL p s c now r (tkD p a k n) (done ++ [a.2 ++ [n]]) := by
  have hgo : goQ p s (a.2 ++ [n]) = nxtA p a.1 n := by rw [goQ_snoc, ha]; rfl
  obtain ⟨h1, h2, h3, h4⟩ := h
  unfold tkD
  cases e : nxtA p a.1 n with
  | none =>
    dsimp only
    cases hk : k.emp with
    | none =>
      refine ⟨h1, fun b hb => List.mem_append_left _ (h2 b hb), fun x hx => (by cases hx; simp), fun w hw => ?_⟩
      rcases List.mem_append.1 hw with hw | hw
      · obtain ⟨f1, f2⟩ := h4 w hw
        refine ⟨f1, fun hn => ?_⟩
        obtain ⟨y, hy, -⟩ := f2 hn
        rw [hk] at hy; cases hy
      · have : w = a.2 ++ [n] := by simpa using hw
        subst this
        exact ⟨fun t ht => (by rw [hgo, e] at ht; cases ht), fun _ => ⟨_, rfl, by rw [cmpL_self]; exact Int.le_refl _⟩⟩
    | some y =>
      refine ⟨h1, fun b hb => List.mem_append_left _ (h2 b hb), fun x hx => (by cases hx; exact List.mem_append_left _ (h3 _ hk)), fun w hw => ?_⟩
      rcases List.mem_append.1 hw with hw | hw
      · obtain ⟨f1, f2⟩ := h4 w hw
        refine ⟨f1, fun hn => ?_⟩
        obtain ⟨z, hz, hc⟩ := f2 hn
        rw [hk] at hz; cases hz
        exact ⟨_, rfl, hc⟩
      · have : w = a.2 ++ [n] := by simpa using hw
        subst this
        exact ⟨fun t ht => (by rw [hgo, e] at ht; cases ht), fun _ => ⟨_, rfl, Int.le_of_lt (hd y (h3 y hk))⟩⟩
  | some t =>
    dsimp only
    split
    · rename_i h5
      refine ⟨h1, fun b hb => List.mem_append_left _ (h2 b hb), fun x hx => List.mem_append_left _ (h3 _ hx), fun w hw => ?_⟩
      rcases List.mem_append.1 hw with hw | hw
      · exact h4 w hw
      · have : w = a.2 ++ [n] := by simpa using hw
        subst this
        refine ⟨fun u hu => ?_, fun hn => by rw [hgo, e] at hn; cases hn⟩
        rw [hgo, e] at hu
        cases hu
        obtain ⟨b, hb, eb⟩ := List.any_eq_true.1 h5
        exact ⟨b, hb, by simpa using eb, Int.le_of_lt (hd b.2 (h2 b hb))⟩
    · refine ⟨?_, fun b hb => ?_, fun x hx => List.mem_append_left _ (h3 _ hx), fun w hw => ?_⟩
      · unfold SrtW
        rw [List.pairwise_append]
        refine ⟨h1, by simp, fun b hb x hx => ?_⟩
        have : x = (t, a.2 ++ [n]) := by simpa using hx
        subst this
        exact hd b.2 (h2 b hb)
      · rcases List.mem_append.1 hb with hb | hb
        · exact List.mem_append_left _ (h2 b hb)
        · have : b = (t, a.2 ++ [n]) := by simpa using hb
          subst this
          simp
      · rcases List.mem_append.1 hw with hw | hw
        · obtain ⟨f1, f2⟩ := h4 w hw
          exact ⟨fun u hu => by obtain ⟨b, hb, x⟩ := f1 u hu; exact ⟨b, List.mem_append_left _ hb, x⟩, f2⟩
        · have : w = a.2 ++ [n] := by simpa using hw
          subst this
          refine ⟨fun u hu => ?_, fun hn => by rw [hgo, e] at hn; cases hn⟩
          rw [hgo, e] at hu
          cases hu
          exact ⟨(t, a.2 ++ [n]), by simp, rfl, by rw [cmpL_self]; exact Int.le_refl _⟩

end Go.Proofs.YtjfedpblkejmkaaGreat

/-
  Plain laws of classes: the witness is the lexicographically first of all that are as short; the reference finds the same, demand by demand.
-/
namespace Go.Proofs.YtjfedpblkejmkaaGreat
open Go.RowKit

abbrev wyQ (x : (OSt × List Int) × Int) : List Int := x.1.2 ++ [x.2]
def prsQ (now : List (OSt × List Int)) (r : Int × Int) : List ((OSt × List Int) × Int) := now.flatMap fun a => (rngL r).map fun n => (a, n)
theorem tkL_prs (p : Plt) (r : Int × Int) : ∀ (now : List (OSt × List Int)) (k : Tks), now.foldl (tkR p r) k = (prsQ now r).foldl (fun k x => tkD p x.1 k x.2) k
  | [], _ => rfl
  | a :: now, k => by
    unfold prsQ
    rw [List.flatMap_cons, List.foldl_append, List.foldl_cons, List.foldl_map]
    exact tkL_prs p r now _
theorem fold_lex {p : Plt} {s : OSt} {c : List (Int × Int)} {now : List (OSt × List Int)} {r : Int × Int} : ∀ (l : List ((OSt × List Int) × Int)) (k : Tks) (done : List (List Int)), StpL p s c now r k done → (∀ x ∈ l, goQ p s x.1.2 = some x.1.1) → l.Pairwise (fun x y => cmpL (wyQ x) (wyQ y) < 0) → (∀ w ∈ done, ∀ x ∈ l, cmpL w (wyQ x) < 0) →
    StpL p s c now r (l.foldl (fun k x => tkD p x.1 k x.2) k) (done ++ l.map wyQ)
  | [], k, done, h, _, _, _ => by simpa using h
  | x :: l, k, done, h, h1, h2, h3 => by
    have hp := List.pairwise_cons.1 h2
    have := fold_lex l _ _ (tkD_lex (n := x.2) h (h1 x (List.mem_cons_self ..)) (fun w hw => h3 w hw x (List.mem_cons_self ..))) (fun y hy => h1 y (List.mem_cons_of_mem _ hy)) hp.2 (fun w hw y hy => by
      rcases List.mem_append.1 hw with hw | hw
      · exact h3 w hw y (List.mem_cons_of_mem _ hy)
      · have e : w = wyQ x := by simpa using hw
        rw [e]; exact hp.1 y hy)
    rw [List.foldl_cons, List.map_cons]
    rw [List.append_assoc] at this
    exact this
theorem LvL.stp {p : Plt} {s : OSt} {c : List (Int × Int)} {now : List (OSt × List Int)} (h : LvL p s c now) (r : Int × Int) : StpL p s c now r (tkL p r now) ((prsQ now r).map wyQ) := by
  unfold tkL
  rw [tkL_prs]
  have := fold_lex (p := p) (s := s) (c := c) (now := now) (r := r) (prsQ now r) ⟨[], none⟩ [] ⟨List.Pairwise.nil, fun _ h => (by cases h), fun _ h => (by cases h), fun _ h => (by cases h)⟩ (fun x hx => ?_) ?_ (fun _ h => (by cases h))
  · rw [List.nil_append] at this; exact this
  · obtain ⟨a, ha, hx⟩ := List.mem_flatMap.1 hx
    obtain ⟨n, -, rfl⟩ := List.mem_map.1 hx
    exact (h.ok.way a ha).2
  · unfold prsQ
    rw [List.pairwise_flatMap]
    refine ⟨fun a ha => ?_, ?_⟩
    · rw [List.pairwise_map]
      refine List.Pairwise.imp ?_ (rngL_srt r)
      intro x y hxy
      show cmpL (a.2 ++ [x]) (a.2 ++ [y]) < 0
      rw [cmpL_app rfl, cmpL_self, if_pos rfl, cmpL_one, if_pos hxy]; decide
    · refine List.Pairwise.imp_of_mem ?_ h.srt
      intro a b ha hb hab x hx y hy
      obtain ⟨m, -, rfl⟩ := List.mem_map.1 hx
      obtain ⟨n, -, rfl⟩ := List.mem_map.1 hy
      show cmpL (a.2 ++ [m]) (b.2 ++ [n]) < 0
      rw [cmpL_app (by rw [(h.ok.way a ha).1.1, (h.ok.way b hb).1.1]), if_neg (by omega)]
      exact hab
theorem LvL.cand {p : Plt} {s : OSt} {c : List (Int × Int)} {now : List (OSt × List Int)} (h : LvL p s c now) {r : Int × Int} {ds : List Int} (hd : inC (c ++ [r]) ds) : ∃ w ∈ (prsQ now r).map wyQ, goQ p s w = goQ p s ds ∧ cmpL w ds ≤ 0 := by
  obtain ⟨es, n, rfl, he, hn⟩ := inC_snoc.1 hd
  obtain ⟨t, ht, -⟩ := h.ok.all es he
  obtain ⟨a, ha, e, hc⟩ := h.fst es t he ht
  refine ⟨a.2 ++ [n], List.mem_map.2 ⟨(a, n), List.mem_flatMap.2 ⟨a, ha, List.mem_map.2 ⟨n, hn, rfl⟩⟩, rfl⟩, ?_, ?_⟩
  · rw [goQ_snoc, goQ_snoc, ht, (h.ok.way a ha).2, e]
  · rw [cmpL_app (by rw [(h.ok.way a ha).1.1, he.1]), cmpL_self]
    split <;> omega
theorem LvL.start (p : Plt) (s : OSt) : LvL p s [] [(s, [])] :=
  ⟨LvOk.start p s, by unfold SrtW; simp, fun ds t hd ht => by
    rw [inC_nil.1 hd] at ht ⊢
    cases ht
    exact ⟨(s, []), by simp, rfl, by rw [cmpL_self]; exact Int.le_refl _⟩⟩
theorem LvL.next {p : Plt} {s : OSt} {c : List (Int × Int)} {r : Int × Int} {now : List (OSt × List Int)} (h : LvL p s c now) (he : (tkL p r now).emp = none) : LvL p s (c ++ [r]) (tkL p r now).aft := by
  have hs := h.stp r
  refine ⟨h.ok.next he, hs.srt, fun ds t hd ht => ?_⟩
  obtain ⟨w, hw, hg, hc⟩ := h.cand hd
  obtain ⟨a, ha, e, hc2⟩ := (hs.fst w hw).1 t (by rw [hg]; exact ht)
  exact ⟨a, ha, e, cmpL_le hc2 hc⟩
end Go.Proofs.YtjfedpblkejmkaaGreat

/-
  Plain laws of safe states: what is left when all unsafe ones are taken away, in whatever order.
-/
namespace Go.Proofs.YtjfedpblkejmkaaGreat
open Go.RowKit

/-- The error of a state of a set that is to be safe. -/
def jdg (p : Plt) (dem : Int × Int) (lim : Int) (s : OSt) (S : OSt → Bool) : Int :=
  if lessQ (prQ p.pts s.1) (lim, 1) then 22 else if (nxtA p s dem.2).isNone then 22 else if (rngL dem).all (fun n => S ((nxtA p s n).getD (0, false))) then 0 else 21
theorem jdg_mono {p : Plt} {dem : Int × Int} {lim : Int} {s : OSt} {S T : OSt → Bool} (h : ∀ x, S x = true → T x = true) (hj : jdg p dem lim s S = 0) : jdg p dem lim s T = 0 := by
  unfold jdg at *
  by_cases h1 : lessQ (prQ p.pts s.1) (lim, 1) = true
  · rw [if_pos h1] at hj; exact absurd hj (by decide)
  · rw [if_neg h1] at *
    by_cases h2 : (nxtA p s dem.2).isNone = true
    · rw [if_pos h2] at hj; exact absurd hj (by decide)
    · rw [if_neg h2] at *
      by_cases h3 : ((rngL dem).all fun n => S ((nxtA p s n).getD (0, false))) = true
      · rw [if_pos]
        rw [List.all_eq_true] at *
        exact fun n hn => h _ (h3 n hn)
      · rw [if_neg h3] at hj; exact absurd hj (by decide)
def inS (l : List OSt) (s : OSt) : Bool := l.any (· == s)
theorem inS_iff {l : List OSt} {s : OSt} : inS l s = true ↔ s ∈ l := by
  unfold inS
  rw [List.any_eq_true]
  constructor
  · rintro ⟨x, hx, e⟩
    have : x = s := by simpa using e
    subst this; exact hx
  · exact fun h => ⟨s, h, by simp⟩
/-- A set each of whose states is judged well. -/
def Clo (p : Plt) (dem : Int × Int) (lim : Int) (S : OSt → Bool) : Prop := ∀ s, S s = true → jdg p dem lim s S = 0
/-- All states of a plant, in order. -/
def allS (p : Plt) : List OSt := (List.range (capV p.pts + 1).toNat).flatMap fun (v : Nat) => [((v : Int), false), ((v : Int), true)]
theorem mem_allS {p : Plt} {s : OSt} : s ∈ allS p ↔ StOk p s := by
  obtain ⟨v, r⟩ := s
  unfold allS StOk
  rw [List.mem_flatMap]
  constructor
  · rintro ⟨k, hk, h⟩
    rw [List.mem_range] at hk
    simp only [List.mem_cons, List.not_mem_nil, or_false, Prod.mk.injEq] at h
    dsimp only
    omega
  · rintro ⟨h1, h2⟩
    dsimp only at h1 h2
    refine ⟨v.toNat, List.mem_range.2 (by omega), ?_⟩
    have e : ((v.toNat : Nat) : Int) = v := by omega
    cases r <;> simp [e]
theorem srt_allS (p : Plt) : SrtS (allS p) := by
  unfold allS SrtS
  rw [List.pairwise_flatMap]
  refine ⟨fun v _ => ?_, ?_⟩
  · simp [ltS]
  · refine List.Pairwise.imp ?_ List.pairwise_lt_range
    intro a b hab x hx y hy
    simp only [List.mem_cons, List.not_mem_nil, or_false] at hx hy
    unfold ltS
    rcases hx with rfl | rfl <;> rcases hy with rfl | rfl <;> simp <;> omega
def itS (p : Plt) (dem : Int × Int) (lim : Int) (l : List OSt) : List OSt := l.filter fun s => jdg p dem lim s (inS l) == 0
theorem itS_le (p : Plt) (dem : Int × Int) (lim : Int) (l : List OSt) : (itS p dem lim l).length ≤ l.length := List.length_filter_le ..
/-- The reference's way: again and again. -/
def safL (p : Plt) (dem : Int × Int) (lim : Int) : Nat → List OSt → List OSt
  | 0, l => l
  | n + 1, l => if (itS p dem lim l).length = l.length then l else safL p dem lim n (itS p dem lim l)
def safS (p : Plt) (dem : Int × Int) (lim : Int) : List OSt := safL p dem lim (allS p).length (allS p)
theorem filter_all {α : Type} {f : α → Bool} : ∀ {l : List α}, (l.filter f).length = l.length → ∀ x ∈ l, f x = true
  | [], _, x, hx => by cases hx
  | a :: l, h, x, hx => by
    by_cases ha : f a = true
    · rw [List.filter_cons_of_pos ha] at h
      simp only [List.length_cons, Nat.add_right_cancel_iff] at h
      rcases List.mem_cons.1 hx with rfl | hx
      · exact ha
      · exact filter_all h x hx
    · rw [List.filter_cons_of_neg ha] at h
      have := List.length_filter_le f l
      simp only [List.length_cons] at h
      omega
theorem safL_spec {p : Plt} {dem : Int × Int} {lim : Int} : ∀ (n : Nat) (l : List OSt), l.length ≤ n → Clo p dem lim (inS (safL p dem lim n l)) ∧ (∀ x ∈ safL p dem lim n l, x ∈ l) ∧ (∀ S, Clo p dem lim S → (∀ x, S x = true → x ∈ l) → ∀ x, S x = true → x ∈ safL p dem lim n l) ∧ (SrtS l → SrtS (safL p dem lim n l))
  | 0, l, h => by
    have e : l = [] := List.length_eq_zero_iff.1 (by omega)
    subst e
    refine ⟨fun s hs => ?_, fun x hx => hx, fun S _ h2 x hx => h2 x hx, fun h => h⟩
    have := inS_iff.1 hs; cases this
  | n + 1, l, h => by
    unfold safL
    by_cases he : (itS p dem lim l).length = l.length
    · rw [if_pos he]
      refine ⟨fun s hs => ?_, fun x hx => hx, fun S _ h2 x hx => h2 x hx, fun h => h⟩
      have := filter_all he s (inS_iff.1 hs)
      simpa using this
    · rw [if_neg he]
      have hlt := itS_le p dem lim l
      obtain ⟨h1, h2, h3, h4⟩ := safL_spec (p := p) (dem := dem) (lim := lim) n (itS p dem lim l) (by omega)
      refine ⟨h1, fun x hx => (List.mem_filter.1 (h2 x hx)).1, fun S hS hin x hx => h3 S hS (fun y hy => ?_) x hx, fun hs => h4 (List.Pairwise.filter _ hs)⟩
      refine List.mem_filter.2 ⟨hin y hy, ?_⟩
      have := jdg_mono (fun z hz => inS_iff.2 (hin z hz)) (hS y hy)
      rw [this]; rfl
/-- Whatever takes away only states that are judged ill, and stops when none is left to be taken away, is left with these. -/
theorem saf_any {p : Plt} {dem : Int × Int} {lim : Int} {S : OSt → Bool} (h1 : Clo p dem lim S) (h2 : ∀ x, S x = true → x ∈ allS p) (h3 : ∀ x ∈ safS p dem lim, S x = true) (x : OSt) : S x = true ↔ x ∈ safS p dem lim :=
  ⟨(safL_spec _ _ (Nat.le_refl _)).2.2.1 S h1 h2 x, h3 x⟩
/-- One that is judged ill in a greater set is not among them. -/
theorem saf_step {p : Plt} {dem : Int × Int} {lim : Int} {S : OSt → Bool} {s : OSt} (h3 : ∀ x ∈ safS p dem lim, S x = true) (hj : jdg p dem lim s S ≠ 0) : s ∉ safS p dem lim := fun hs =>
  hj (jdg_mono (fun z hz => h3 z (inS_iff.1 hz)) ((safL_spec _ _ (Nat.le_refl _)).1 s (inS_iff.2 hs)))

end Go.Proofs.YtjfedpblkejmkaaGreat

/-
  Plain laws of safe states: from one of them on every class in the range of demands is permitted, and each run stays among them; a set that is accepted lies within them.
-/
namespace Go.Proofs.YtjfedpblkejmkaaGreat
open Go.RowKit

theorem nxtA_le {p : Plt} {s : OSt} {n m : Int} (h : n ≤ m) (hm : nxtA p s m ≠ none) : nxtA p s n ≠ none := by
  unfold nxtA at *
  have hv : vlmA p s m ≤ vlmA p s n := by unfold vlmA; split <;> omega
  by_cases c : vlmA p s n < 0
  · rw [if_pos (show vlmA p s m < 0 by omega)] at hm
    exact absurd rfl hm
  · rw [if_neg c]; exact fun h => by cases h
theorem rngL_mem {r : Int × Int} {n : Int} : n ∈ rngL r ↔ r.1 ≤ n ∧ n ≤ r.2 := by
  unfold rngL
  rw [List.mem_map]
  constructor
  · rintro ⟨i, hi, rfl⟩
    rw [List.mem_range] at hi
    omega
  · rintro ⟨h1, h2⟩
    exact ⟨(n - r.1).toNat, List.mem_range.2 (by omega), by omega⟩
theorem saf_srt (p : Plt) (dem : Int × Int) (lim : Int) : SrtS (safS p dem lim) := (safL_spec _ _ (Nat.le_refl _)).2.2.2 (srt_allS p)
theorem saf_ok {p : Plt} {dem : Int × Int} {lim : Int} {x : OSt} (h : x ∈ safS p dem lim) : StOk p x := mem_allS.1 ((safL_spec _ _ (Nat.le_refl _)).2.1 x h)
theorem allS_len {p : Plt} (_h : 0 ≤ capV p.pts) : (allS p).length = 2 * (capV p.pts + 1).toNat := by
  unfold allS
  generalize (capV p.pts + 1).toNat = n
  induction n with
  | zero => rfl
  | succ n ih => rw [List.range_succ, List.flatMap_append, List.length_append, ih]; simp; omega

end Go.Proofs.YtjfedpblkejmkaaGreat

/-
  The examples of the chapter, by the plain laws.
-/
namespace Go.Proofs.YtjfedpblkejmkaaGreat
open Go.RowKit

/-- The plants of the examples. -/
def exP : Plt := ⟨[(0, 100), (10, 150), (30, 200)], 4, 150, 190⟩
def exS : Plt := ⟨[(0, 10), (4, 50)], 2, 30, 50⟩
def exC : List (Int × Int) := [(10, 12), (0, 2)]
theorem exS_saf : safS exS (0, 2) 20 = [(1, true), (2, true), (3, false), (3, true), (4, false), (4, true)] := by decide

end Go.Proofs.YtjfedpblkejmkaaGreat

