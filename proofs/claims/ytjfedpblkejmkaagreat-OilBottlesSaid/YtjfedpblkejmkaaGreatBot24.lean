/-
  Texts of this claim, in their build order: OP4 OP8 OP9 OP10 OP11 OP12 OP5 OP14 OP15.
-/
import Derived.Test.YtjfedpblkejmkaaGreatBot18

namespace Go.Proofs.YtjfedpblkejmkaaGreat
section
open Go.RowKit

theorem less_up {l : List (Int × Int)} {v u : Int} (h : PtsOk l) (v0 : 0 ≤ v) (v1 : v ≤ capV l) (u0 : 0 ≤ u) (u1 : u ≤ capV l) : lessQ (prQ l v) (prQ l u) = decide (v < u) := by
  unfold lessQ
  by_cases hlt : v < u
  · rw [decide_eq_true hlt, decide_eq_true (prQ_up h v0 hlt u1)]
  · rw [decide_eq_false hlt]
    refine decide_eq_false fun hn => ?_
    rcases Int.lt_or_eq_of_le (show u ≤ v by omega) with h2 | h2
    · have := prQ_up h u0 h2 v1
      rw [Int.mul_comm (prQ l u).1, Int.mul_comm (prQ l v).1] at this
      have e1 := Int.mul_comm (prQ l u).1 (prQ l v).2
      have e2 := Int.mul_comm (prQ l v).1 (prQ l u).2
      omega
    · subst h2
      exact Int.lt_irrefl _ hn
/-- One level: the lowest volume so far, and its tick. -/
def lowD (tick : Int) (s : Int × Int) (a : OSt × List Int) : Int × Int := if a.1.1 < s.2 then (tick, a.1.1) else s
def lowL (tick : Int) (s : Int × Int) (now : List (OSt × List Int)) : Int × Int := now.foldl (lowD tick) s
/-- All levels: none if some demands empty the plant. -/
def lowF : Int → (Int × Int) → List (List (OSt × List Int) × Option (List Int)) → Option (Int × Int)
  | _, s, [] => some s
  | tick, s, (now, none) :: l => lowF (tick + 1) (lowL tick s now) l
  | _, _, (_, some _) :: _ => none
end
section
open Go.RowKit

/-- Where demands lead to; none if one empties the plant. -/
def goQ (p : Plt) : OSt → List Int → Option OSt
  | s, [] => some s
  | s, d :: ds => (nxtA p s d).bind fun t => goQ p t ds
theorem goQ_app (p : Plt) : ∀ (ds es : List Int) (s : OSt), goQ p s (ds ++ es) = (goQ p s ds).bind fun t => goQ p t es
  | [], es, s => rfl
  | d :: ds, es, s => by
    show (nxtA p s d).bind (fun t => goQ p t (ds ++ es)) = ((nxtA p s d).bind fun t => goQ p t ds).bind _
    cases nxtA p s d with
    | none => rfl
    | some t => exact goQ_app p ds es t
theorem goQ_snoc (p : Plt) (ds : List Int) (n : Int) (s : OSt) : goQ p s (ds ++ [n]) = (goQ p s ds).bind fun t => nxtA p t n := by
  rw [goQ_app]
  congr 1
  funext t
  show (nxtA p t n).bind (fun t => some t) = _
  cases nxtA p t n <;> rfl
/-- Demands of a class. -/
def inC (c : List (Int × Int)) (ds : List Int) : Prop := ds.length = c.length ∧ ∀ i, i < c.length → gi ds i ∈ rngL (fg c i)
theorem inC_nil {ds : List Int} : inC [] ds ↔ ds = [] := by
  unfold inC
  constructor
  · intro h; exact List.length_eq_zero_iff.1 h.1
  · rintro rfl; exact ⟨rfl, fun i hi => by simp at hi⟩
theorem gi_app1 {l m : List Int} {i : Nat} (h : i < l.length) : gi (l ++ m) i = gi l i := by
  unfold gi
  rw [List.getD_eq_getElem?_getD, List.getD_eq_getElem?_getD, List.getElem?_append_left h]
theorem gi_app2 {l : List Int} (x : Int) : gi (l ++ [x]) l.length = x := by
  unfold gi
  rw [List.getD_eq_getElem?_getD, List.getElem?_append_right (Nat.le_refl _), Nat.sub_self]; rfl
theorem fg_snoc1 {l : List (Int × Int)} {r : Int × Int} {i : Nat} (h : i < l.length) : fg (l ++ [r]) i = fg l i := by
  unfold fg
  rw [List.getD_eq_getElem?_getD, List.getD_eq_getElem?_getD, List.getElem?_append_left h]
theorem fg_snoc2 (l : List (Int × Int)) (r : Int × Int) : fg (l ++ [r]) l.length = r := by
  unfold fg
  rw [List.getD_eq_getElem?_getD, List.getElem?_append_right (Nat.le_refl _), Nat.sub_self]; rfl
theorem inC_snoc {c : List (Int × Int)} {r : Int × Int} {ds : List Int} : inC (c ++ [r]) ds ↔ ∃ es n, ds = es ++ [n] ∧ inC c es ∧ n ∈ rngL r := by
  unfold inC
  rw [List.length_append, List.length_singleton]
  constructor
  · rintro ⟨hl, h⟩
    have hne : ds ≠ [] := fun e => by rw [e] at hl; simp at hl
    obtain ⟨es, n, e⟩ : ∃ es n, ds = es ++ [n] := ⟨ds.dropLast, ds.getLast hne, (List.dropLast_concat_getLast hne).symm⟩
    subst e
    rw [List.length_append, List.length_singleton] at hl
    have hl' : es.length = c.length := by omega
    refine ⟨es, n, rfl, ⟨hl', fun i hi => ?_⟩, ?_⟩
    · have := h i (by omega)
      rwa [gi_app1 (by omega), fg_snoc1 hi] at this
    · have := h c.length (by omega)
      rwa [fg_snoc2, ← hl', gi_app2] at this
  · rintro ⟨es, n, rfl, ⟨hl, h⟩, hn⟩
    rw [List.length_append, List.length_singleton]
    refine ⟨by omega, fun i hi => ?_⟩
    by_cases hic : i < c.length
    · rw [gi_app1 (by omega), fg_snoc1 hic]; exact h i hic
    · obtain rfl : i = c.length := by omega
      rw [fg_snoc2, ← hl, gi_app2]; exact hn
/-- Each state is reached by its demands. -/
def LvA (p : Plt) (s : OSt) (c : List (Int × Int)) (now : List (OSt × List Int)) : Prop := ∀ a ∈ now, inC c a.2 ∧ goQ p s a.2 = some a.1
/-- A whole level. -/
structure LvOk (p : Plt) (s : OSt) (c : List (Int × Int)) (now : List (OSt × List Int)) : Prop where
  way : LvA p s c now
  all : ∀ ds, inC c ds → ∃ t, goQ p s ds = some t ∧ t ∈ sts now
  nd : (sts now).Nodup
theorem LvOk.start (p : Plt) (s : OSt) : LvOk p s [] [(s, [])] :=
  ⟨fun a ha => by
    have : a = (s, []) := by simpa using ha
    subst this; exact ⟨inC_nil.2 rfl, rfl⟩, fun ds h => by rw [inC_nil.1 h]; exact ⟨s, rfl, by simp [sts]⟩, by simp [sts]⟩
/-- What holds while the next level is found. -/
def StpA (p : Plt) (s : OSt) (c : List (Int × Int)) (k : Tks) : Prop := LvA p s c k.aft ∧ ∀ e, k.emp = some e → inC c e ∧ goQ p s e = none ∧ ∃ es n t, e = es ++ [n] ∧ goQ p s es = some t
theorem tkD_way {p : Plt} {s : OSt} {c : List (Int × Int)} {r : Int × Int} {a : OSt × List Int} {k : Tks} {n : Int} (ha : inC c a.2 ∧ goQ p s a.2 = some a.1) (hn : n ∈ rngL r) (h : StpA p s (c ++ [r]) k) : StpA p s (c ++ [r]) (tkD p a k n) := by
  obtain ⟨h1, h2⟩ := h
  have hin : inC (c ++ [r]) (a.2 ++ [n]) := inC_snoc.2 ⟨a.2, n, rfl, ha.1, hn⟩
  have hgo : goQ p s (a.2 ++ [n]) = nxtA p a.1 n := by rw [goQ_snoc, ha.2]; rfl
  unfold tkD
  cases e : nxtA p a.1 n with
  | none =>
    refine ⟨h1, fun x hx => ?_⟩
    dsimp only at hx
    cases hk : k.emp with
    | none =>
      rw [hk] at hx
      cases hx
      exact ⟨hin, by rw [hgo, e], a.2, n, a.1, rfl, ha.2⟩
    | some y =>
      rw [hk] at hx
      cases hx
      exact h2 _ hk
  | some t =>
    dsimp only
    split
    · exact ⟨h1, h2⟩
    · refine ⟨fun b hb => ?_, h2⟩
      rcases List.mem_append.1 hb with hb | hb
      · exact h1 b hb
      · have : b = (t, a.2 ++ [n]) := by simpa using hb
        subst this
        exact ⟨hin, by rw [hgo, e]⟩
theorem foldD_way {p : Plt} {s : OSt} {c : List (Int × Int)} {r : Int × Int} {a : OSt × List Int} (ha : inC c a.2 ∧ goQ p s a.2 = some a.1) : ∀ (l : List Int) (k : Tks), (∀ n ∈ l, n ∈ rngL r) → StpA p s (c ++ [r]) k → StpA p s (c ++ [r]) (l.foldl (tkD p a) k)
  | [], _, _, h => h
  | n :: l, _, hl, h => foldD_way ha l _ (fun m hm => hl m (List.mem_cons_of_mem _ hm)) (tkD_way ha (hl n (List.mem_cons_self ..)) h)
theorem foldR_way {p : Plt} {s : OSt} {c : List (Int × Int)} {r : Int × Int} : ∀ (now : List (OSt × List Int)) (k : Tks), LvA p s c now → StpA p s (c ++ [r]) k → StpA p s (c ++ [r]) (now.foldl (tkR p r) k)
  | [], _, _, h => h
  | a :: now, _, hl, h => foldR_way now _ (fun b hb => hl b (List.mem_cons_of_mem _ hb)) (foldD_way (hl a (List.mem_cons_self ..)) (rngL r) _ (fun _ h => h) h)
theorem tkL_way {p : Plt} {s : OSt} {c : List (Int × Int)} {r : Int × Int} {now : List (OSt × List Int)} (h : LvA p s c now) : StpA p s (c ++ [r]) (tkL p r now) :=
  foldR_way now _ h ⟨fun _ ha => (by cases ha), fun _ he => (by cases he)⟩
/-- The next level, if nothing empties the plant. -/
theorem LvOk.next {p : Plt} {s : OSt} {c : List (Int × Int)} {r : Int × Int} {now : List (OSt × List Int)} (h : LvOk p s c now) (he : (tkL p r now).emp = none) : LvOk p s (c ++ [r]) (tkL p r now).aft := by
  obtain ⟨h1, h2, h3⟩ := foldR_all (p := p) (r := r) now ⟨[], none⟩
  refine ⟨(tkL_way h.way).1, fun ds hds => ?_, h3 (by simp [sts])⟩
  obtain ⟨es, n, rfl, he1, hn⟩ := inC_snoc.1 hds
  obtain ⟨t, ht, htn⟩ := h.all es he1
  have hno : ¬ Emp p r (sts now) := (h2.1 he).2
  cases e : nxtA p t n with
  | none => exact absurd ⟨t, htn, n, hn, e⟩ hno
  | some u =>
    refine ⟨u, by rw [goQ_snoc, ht]; exact e, ?_⟩
    exact (h1 u).2 (.inr ⟨t, htn, n, hn, e⟩)
end
section
open Go.RowKit

/-- Is the pressure of a state below a limit? -/
def blwQ (p : Plt) (lim : Int) (t : OSt) : Bool := lessQ (prQ p.pts t.1) (lim, 1)
/-- slices.Compare. -/
def cmpL : List Int → List Int → Int
  | [], [] => 0
  | [], _ :: _ => -1
  | _ :: _, [] => 1
  | a :: l, b :: m => if a < b then -1 else if b < a then 1 else cmpL l m
/-- The program's witness. -/
def witA (p : Plt) (lim : Int) : List (List (OSt × List Int) × Option (List Int)) → Option (List Int)
  | [] => none
  | (now, emp) :: l => match now.find? (fun a => blwQ p lim a.1), emp with
    | some a, none => some a.2
    | some a, some e => if cmpL a.2 e < 0 then some a.2 else some e
    | none, some e => some e
    | none, none => witA p lim l
end
section
open Go.RowKit

def EmpB (p : Plt) (r : Int × Int) (l : List OSt) : Bool := l.any fun s => (rngL r).any fun n => (nxtA p s n).isNone
theorem EmpB_iff {p : Plt} {r : Int × Int} {l : List OSt} : EmpB p r l = true ↔ Emp p r l := by
  unfold EmpB Emp
  rw [List.any_eq_true]
  constructor
  · rintro ⟨s, hs, h⟩
    obtain ⟨n, hn, e⟩ := List.any_eq_true.1 h
    exact ⟨s, hs, n, hn, by simpa using e⟩
  · rintro ⟨s, hs, n, hn, e⟩
    exact ⟨s, hs, List.any_eq_true.2 ⟨n, hn, by rw [e]; rfl⟩⟩
theorem emp_same {p : Plt} {r : Int × Int} {now : List (OSt × List Int)} {l : List OSt} (h : ∀ x, x ∈ l ↔ x ∈ sts now) : (tkL p r now).emp = none ↔ EmpB p r l = false := by
  have h2 := (foldR_all (p := p) (r := r) now ⟨[], none⟩).2.1
  unfold tkL
  rw [h2, ← Bool.not_eq_true, EmpB_iff]
  unfold Emp
  constructor
  · rintro ⟨-, hn⟩ ⟨s, hs, y⟩
    exact hn ⟨s, (h s).1 hs, y⟩
  · intro hn
    exact ⟨rfl, fun ⟨s, hs, y⟩ => hn ⟨s, (h s).2 hs, y⟩⟩
theorem aft_same {p : Plt} {r : Int × Int} {now : List (OSt × List Int)} {l : List OSt} (h : ∀ x, x ∈ l ↔ x ∈ sts now) (x : OSt) : x ∈ aftR p r l ↔ x ∈ sts (tkL p r now).aft := by
  rw [mem_aftR]
  have h1 := (foldR_all (p := p) (r := r) now ⟨[], none⟩).1 x
  unfold tkL
  rw [h1]
  unfold Fol
  simp only [sts, List.map_nil, List.not_mem_nil, false_or]
  constructor
  · rintro ⟨s, hs, y⟩; exact ⟨s, (h s).1 hs, y⟩
  · rintro ⟨s, hs, y⟩; exact ⟨s, (h s).2 hs, y⟩
/-- The reference's answer whether a class is permitted. -/
def prmR (p : Plt) (lim : Int) : List OSt → List (Int × Int) → Bool
  | l, [] => !l.any (blwQ p lim)
  | l, r :: rs => !l.any (blwQ p lim) && (!EmpB p r l && prmR p lim (aftR p r l) rs)
theorem any_same {l : List OSt} {now : List (OSt × List Int)} {f : OSt → Bool} (h : ∀ x, x ∈ l ↔ x ∈ sts now) : l.any f = (now.find? (fun a => f a.1)).isSome := by
  cases hf : now.find? (fun a => f a.1) with
  | none =>
    rw [Option.isSome_none, List.any_eq_false]
    intro x hx
    obtain ⟨a, ha, rfl⟩ := List.mem_map.1 ((h x).1 hx)
    exact List.find?_eq_none.1 hf a ha
  | some a =>
    rw [Option.isSome_some, List.any_eq_true]
    exact ⟨a.1, (h a.1).2 (List.mem_map.2 ⟨a, List.mem_of_find?_eq_some hf, rfl⟩), by simpa using List.find?_some hf⟩
theorem prm_law {p : Plt} {lim : Int} : ∀ (rs : List (Int × Int)) (now : List (OSt × List Int)) (l : List OSt), (∀ x, x ∈ l ↔ x ∈ sts now) → prmR p lim l rs = (witA p lim (tks p rs now)).isNone := by
  intro rs
  induction rs with
  | nil =>
    intro now l hm
    unfold prmR tks witA
    rw [any_same hm]
    cases hf : now.find? (fun a => blwQ p lim a.1) with
    | none => dsimp only; unfold witA; rfl
    | some a => rfl
  | cons r rs ih =>
    intro now l hm
    unfold prmR tks witA
    rw [any_same hm]
    cases hf : now.find? (fun a => blwQ p lim a.1) with
    | some a => rfl
    | none =>
      dsimp only
      have he := emp_same (p := p) (r := r) hm
      cases h : (tkL p r now).emp with
      | some e =>
        have hb : EmpB p r l = true := by
          cases hb : EmpB p r l
          · rw [he.2 hb] at h; cases h
          · rfl
        rw [hb]
        dsimp only
        unfold witA
        cases hf2 : (tkL p r now).aft.find? (fun a => blwQ p lim a.1) with
        | some a => dsimp only; split <;> rfl
        | none => rfl
      | none =>
        rw [he.1 h]
        dsimp only
        rw [ih (tkL p r now).aft (aftR p r l) (aft_same hm)]
        rfl
end
section
open Go.RowKit

theorem cmpL_self : ∀ l : List Int, cmpL l l = 0
  | [] => rfl
  | a :: l => by unfold cmpL; rw [if_neg (Int.lt_irrefl a), if_neg (Int.lt_irrefl a)]; exact cmpL_self l
theorem cmpL_zero : ∀ {l m : List Int}, cmpL l m = 0 → l = m
  | [], [], _ => rfl
  | [], _ :: _, h => by unfold cmpL at h; omega
  | _ :: _, [], h => by unfold cmpL at h; omega
  | a :: l, b :: m, h => by
    unfold cmpL at h
    split at h
    · omega
    · split at h
      · omega
      · rw [cmpL_zero h, show a = b by omega]
theorem cmpL_trans : ∀ {l m k : List Int}, cmpL l m < 0 → cmpL m k < 0 → cmpL l k < 0
  | [], [], _, h, _ => by unfold cmpL at h; omega
  | [], _ :: _, [], _, h => by unfold cmpL at h; omega
  | [], _ :: _, _ :: _, _, _ => by unfold cmpL; omega
  | _ :: _, [], _, h, _ => by unfold cmpL at h; omega
  | _ :: _, _ :: _, [], _, h => by unfold cmpL at h; omega
  | a :: l, b :: m, c :: k, h1, h2 => by
    unfold cmpL at h1 h2 ⊢
    rcases Int.lt_trichotomy a b with e1 | e1 | e1
    · rcases Int.lt_trichotomy b c with e2 | e2 | e2
      · rw [if_pos (by omega)]; decide
      · rw [if_pos (by omega)]; decide
      · rw [if_neg (by omega), if_pos e2] at h2; omega
    · subst e1
      rw [if_neg (Int.lt_irrefl a), if_neg (Int.lt_irrefl a)] at h1
      rcases Int.lt_trichotomy a c with e2 | e2 | e2
      · rw [if_pos e2]; decide
      · subst e2
        rw [if_neg (Int.lt_irrefl a), if_neg (Int.lt_irrefl a)] at h2 ⊢
        exact cmpL_trans h1 h2
      · rw [if_neg (by omega), if_pos e2] at h2; omega
    · rw [if_neg (by omega), if_pos e1] at h1; omega
theorem cmpL_le_lt {l m k : List Int} (h1 : cmpL l m ≤ 0) (h2 : cmpL m k < 0) : cmpL l k < 0 := by
  rcases Int.lt_or_eq_of_le h1 with h | h
  · exact cmpL_trans h h2
  · rw [cmpL_zero h]; exact h2
theorem cmpL_le {l m k : List Int} (h1 : cmpL l m ≤ 0) (h2 : cmpL m k ≤ 0) : cmpL l k ≤ 0 := by
  rcases Int.lt_or_eq_of_le h2 with h | h
  · exact Int.le_of_lt (cmpL_le_lt h1 h)
  · rw [← cmpL_zero h]; exact h1
theorem cmpL_cons (a b : Int) (l m : List Int) : cmpL (a :: l) (b :: m) = if a < b then -1 else if b < a then 1 else cmpL l m := rfl
theorem cmpL_app : ∀ {l m : List Int}, l.length = m.length → ∀ x y, cmpL (l ++ x) (m ++ y) = if cmpL l m = 0 then cmpL x y else cmpL l m
  | [], [], _, x, y => by simp [cmpL]
  | [], _ :: _, h, _, _ => by simp at h
  | _ :: _, [], h, _, _ => by simp at h
  | a :: l, b :: m, h, x, y => by
    have ih := cmpL_app (l := l) (m := m) (by simpa using h) x y
    rw [List.cons_append, List.cons_append, cmpL_cons, cmpL_cons]
    by_cases h1 : a < b
    · rw [if_pos h1, if_pos h1, if_neg (by decide)]
    · rw [if_neg h1, if_neg h1]
      by_cases h2 : b < a
      · rw [if_pos h2, if_pos h2, if_neg (by decide)]
      · rw [if_neg h2, if_neg h2]; exact ih
theorem cmpL_one (a b : Int) : cmpL [a] [b] = if a < b then -1 else if b < a then 1 else 0 := rfl
/-- A list of ways, in order. -/
def SrtW (l : List (OSt × List Int)) : Prop := l.Pairwise fun a b => cmpL a.2 b.2 < 0
theorem rngL_srt (r : Int × Int) : (rngL r).Pairwise (· < ·) := by
  unfold rngL
  rw [List.pairwise_map]
  exact List.Pairwise.imp (fun h => by omega) List.pairwise_lt_range
/-- The level is in order, and its ways are the first ones. -/
structure LvL (p : Plt) (s : OSt) (c : List (Int × Int)) (now : List (OSt × List Int)) : Prop where
  ok : LvOk p s c now
  srt : SrtW now
  fst : ∀ ds t, inC c ds → goQ p s ds = some t → ∃ a ∈ now, a.1 = t ∧ cmpL a.2 ds ≤ 0
/-- While the next level is found: behind all ways before w. -/
structure StpL (p : Plt) (s : OSt) (c : List (Int × Int)) (now : List (OSt × List Int)) (r : Int × Int) (k : Tks) (done : List (List Int)) : Prop where
  srt : SrtW k.aft
  sub : ∀ a ∈ k.aft, a.2 ∈ done
  emp : ∀ e, k.emp = some e → e ∈ done
  fst : ∀ w ∈ done, (∀ t, goQ p s w = some t → ∃ a ∈ k.aft, a.1 = t ∧ cmpL a.2 w ≤ 0) ∧ (goQ p s w = none → ∃ e, k.emp = some e ∧ cmpL e w ≤ 0)
theorem tkD_lex {p : Plt} {s : OSt} {c : List (Int × Int)} {now : List (OSt × List Int)} {r : Int × Int} {k : Tks} {done : List (List Int)} {a : OSt × List Int} {n : Int} (h : StpL p s c now r k done) (ha : goQ p s a.2 = some a.1)
    (hd : ∀ w ∈ done, cmpL w (a.2 ++ [n]) < 0) : StpL p s c now r (tkD p a k n) (done ++ [a.2 ++ [n]]) := by
  have hgo : goQ p s (a.2 ++ [n]) = nxtA p a.1 n := by rw [goQ_snoc, ha]; rfl
  obtain ⟨h1, h2, h3, h4⟩ := h
  unfold tkD
  cases e : nxtA p a.1 n with
  | none =>
    dsimp only
    cases hk : k.emp with
    | none =>
      refine ⟨h1, fun b hb => List.mem_append_left _ (h2 b hb), fun x hx => (by cases hx; simp), fun w hw => ?_⟩
      rcases List.mem_append.1 hw with hw | hw
      · obtain ⟨f1, f2⟩ := h4 w hw
        refine ⟨f1, fun hn => ?_⟩
        obtain ⟨y, hy, -⟩ := f2 hn
        rw [hk] at hy; cases hy
      · have : w = a.2 ++ [n] := by simpa using hw
        subst this
        exact ⟨fun t ht => (by rw [hgo, e] at ht; cases ht), fun _ => ⟨_, rfl, by rw [cmpL_self]; exact Int.le_refl _⟩⟩
    | some y =>
      refine ⟨h1, fun b hb => List.mem_append_left _ (h2 b hb), fun x hx => (by cases hx; exact List.mem_append_left _ (h3 _ hk)), fun w hw => ?_⟩
      rcases List.mem_append.1 hw with hw | hw
      · obtain ⟨f1, f2⟩ := h4 w hw
        refine ⟨f1, fun hn => ?_⟩
        obtain ⟨z, hz, hc⟩ := f2 hn
        rw [hk] at hz; cases hz
        exact ⟨_, rfl, hc⟩
      · have : w = a.2 ++ [n] := by simpa using hw
        subst this
        exact ⟨fun t ht => (by rw [hgo, e] at ht; cases ht), fun _ => ⟨_, rfl, Int.le_of_lt (hd y (h3 y hk))⟩⟩
  | some t =>
    dsimp only
    split
    · rename_i h5
      refine ⟨h1, fun b hb => List.mem_append_left _ (h2 b hb), fun x hx => List.mem_append_left _ (h3 _ hx), fun w hw => ?_⟩
      rcases List.mem_append.1 hw with hw | hw
      · exact h4 w hw
      · have : w = a.2 ++ [n] := by simpa using hw
        subst this
        refine ⟨fun u hu => ?_, fun hn => by rw [hgo, e] at hn; cases hn⟩
        rw [hgo, e] at hu
        cases hu
        obtain ⟨b, hb, eb⟩ := List.any_eq_true.1 h5
        exact ⟨b, hb, by simpa using eb, Int.le_of_lt (hd b.2 (h2 b hb))⟩
    · refine ⟨?_, fun b hb => ?_, fun x hx => List.mem_append_left _ (h3 _ hx), fun w hw => ?_⟩
      · unfold SrtW
        rw [List.pairwise_append]
        refine ⟨h1, by simp, fun b hb x hx => ?_⟩
        have : x = (t, a.2 ++ [n]) := by simpa using hx
        subst this
        exact hd b.2 (h2 b hb)
      · rcases List.mem_append.1 hb with hb | hb
        · exact List.mem_append_left _ (h2 b hb)
        · have : b = (t, a.2 ++ [n]) := by simpa using hb
          subst this
          simp
      · rcases List.mem_append.1 hw with hw | hw
        · obtain ⟨f1, f2⟩ := h4 w hw
          exact ⟨fun u hu => by obtain ⟨b, hb, x⟩ := f1 u hu; exact ⟨b, List.mem_append_left _ hb, x⟩, f2⟩
        · have : w = a.2 ++ [n] := by simpa using hw
          subst this
          refine ⟨fun u hu => ?_, fun hn => by rw [hgo, e] at hn; cases hn⟩
          rw [hgo, e] at hu
          cases hu
          exact ⟨(t, a.2 ++ [n]), by simp, rfl, by rw [cmpL_self]; exact Int.le_refl _⟩
end
section
open Go.RowKit

abbrev wyQ (x : (OSt × List Int) × Int) : List Int := x.1.2 ++ [x.2]
def prsQ (now : List (OSt × List Int)) (r : Int × Int) : List ((OSt × List Int) × Int) := now.flatMap fun a => (rngL r).map fun n => (a, n)
theorem tkL_prs (p : Plt) (r : Int × Int) : ∀ (now : List (OSt × List Int)) (k : Tks), now.foldl (tkR p r) k = (prsQ now r).foldl (fun k x => tkD p x.1 k x.2) k
  | [], _ => rfl
  | a :: now, k => by
    unfold prsQ
    rw [List.flatMap_cons, List.foldl_append, List.foldl_cons, List.foldl_map]
    exact tkL_prs p r now _
theorem fold_lex {p : Plt} {s : OSt} {c : List (Int × Int)} {now : List (OSt × List Int)} {r : Int × Int} : ∀ (l : List ((OSt × List Int) × Int)) (k : Tks) (done : List (List Int)), StpL p s c now r k done → (∀ x ∈ l, goQ p s x.1.2 = some x.1.1) → l.Pairwise (fun x y => cmpL (wyQ x) (wyQ y) < 0) → (∀ w ∈ done, ∀ x ∈ l, cmpL w (wyQ x) < 0) →
    StpL p s c now r (l.foldl (fun k x => tkD p x.1 k x.2) k) (done ++ l.map wyQ)
  | [], k, done, h, _, _, _ => by simpa using h
  | x :: l, k, done, h, h1, h2, h3 => by
    have hp := List.pairwise_cons.1 h2
    have := fold_lex l _ _ (tkD_lex (n := x.2) h (h1 x (List.mem_cons_self ..)) (fun w hw => h3 w hw x (List.mem_cons_self ..))) (fun y hy => h1 y (List.mem_cons_of_mem _ hy)) hp.2 (fun w hw y hy => by
      rcases List.mem_append.1 hw with hw | hw
      · exact h3 w hw y (List.mem_cons_of_mem _ hy)
      · have e : w = wyQ x := by simpa using hw
        rw [e]; exact hp.1 y hy)
    rw [List.foldl_cons, List.map_cons]
    rw [List.append_assoc] at this
    exact this
theorem LvL.stp {p : Plt} {s : OSt} {c : List (Int × Int)} {now : List (OSt × List Int)} (h : LvL p s c now) (r : Int × Int) : StpL p s c now r (tkL p r now) ((prsQ now r).map wyQ) := by
  unfold tkL
  rw [tkL_prs]
  have := fold_lex (p := p) (s := s) (c := c) (now := now) (r := r) (prsQ now r) ⟨[], none⟩ [] ⟨List.Pairwise.nil, fun _ h => (by cases h), fun _ h => (by cases h), fun _ h => (by cases h)⟩ (fun x hx => ?_) ?_ (fun _ h => (by cases h))
  · rw [List.nil_append] at this; exact this
  · obtain ⟨a, ha, hx⟩ := List.mem_flatMap.1 hx
    obtain ⟨n, -, rfl⟩ := List.mem_map.1 hx
    exact (h.ok.way a ha).2
  · unfold prsQ
    rw [List.pairwise_flatMap]
    refine ⟨fun a ha => ?_, ?_⟩
    · rw [List.pairwise_map]
      refine List.Pairwise.imp ?_ (rngL_srt r)
      intro x y hxy
      show cmpL (a.2 ++ [x]) (a.2 ++ [y]) < 0
      rw [cmpL_app rfl, cmpL_self, if_pos rfl, cmpL_one, if_pos hxy]; decide
    · refine List.Pairwise.imp_of_mem ?_ h.srt
      intro a b ha hb hab x hx y hy
      obtain ⟨m, -, rfl⟩ := List.mem_map.1 hx
      obtain ⟨n, -, rfl⟩ := List.mem_map.1 hy
      show cmpL (a.2 ++ [m]) (b.2 ++ [n]) < 0
      rw [cmpL_app (by rw [(h.ok.way a ha).1.1, (h.ok.way b hb).1.1]), if_neg (by omega)]
      exact hab
theorem LvL.cand {p : Plt} {s : OSt} {c : List (Int × Int)} {now : List (OSt × List Int)} (h : LvL p s c now) {r : Int × Int} {ds : List Int} (hd : inC (c ++ [r]) ds) : ∃ w ∈ (prsQ now r).map wyQ, goQ p s w = goQ p s ds ∧ cmpL w ds ≤ 0 := by
  obtain ⟨es, n, rfl, he, hn⟩ := inC_snoc.1 hd
  obtain ⟨t, ht, -⟩ := h.ok.all es he
  obtain ⟨a, ha, e, hc⟩ := h.fst es t he ht
  refine ⟨a.2 ++ [n], List.mem_map.2 ⟨(a, n), List.mem_flatMap.2 ⟨a, ha, List.mem_map.2 ⟨n, hn, rfl⟩⟩, rfl⟩, ?_, ?_⟩
  · rw [goQ_snoc, goQ_snoc, ht, (h.ok.way a ha).2, e]
  · rw [cmpL_app (by rw [(h.ok.way a ha).1.1, he.1]), cmpL_self]
    split <;> omega
theorem LvL.start (p : Plt) (s : OSt) : LvL p s [] [(s, [])] :=
  ⟨LvOk.start p s, by unfold SrtW; simp, fun ds t hd ht => by
    rw [inC_nil.1 hd] at ht ⊢
    cases ht
    exact ⟨(s, []), by simp, rfl, by rw [cmpL_self]; exact Int.le_refl _⟩⟩
theorem LvL.next {p : Plt} {s : OSt} {c : List (Int × Int)} {r : Int × Int} {now : List (OSt × List Int)} (h : LvL p s c now) (he : (tkL p r now).emp = none) : LvL p s (c ++ [r]) (tkL p r now).aft := by
  have hs := h.stp r
  refine ⟨h.ok.next he, hs.srt, fun ds t hd ht => ?_⟩
  obtain ⟨w, hw, hg, hc⟩ := h.cand hd
  obtain ⟨a, ha, e, hc2⟩ := (hs.fst w hw).1 t (by rw [hg]; exact ht)
  exact ⟨a, ha, e, cmpL_le hc2 hc⟩
end
section
open Go.RowKit

/-- The error of a state of a set that is to be safe. -/
def jdg (p : Plt) (dem : Int × Int) (lim : Int) (s : OSt) (S : OSt → Bool) : Int :=
  if lessQ (prQ p.pts s.1) (lim, 1) then 22 else if (nxtA p s dem.2).isNone then 22 else if (rngL dem).all (fun n => S ((nxtA p s n).getD (0, false))) then 0 else 21
theorem jdg_mono {p : Plt} {dem : Int × Int} {lim : Int} {s : OSt} {S T : OSt → Bool} (h : ∀ x, S x = true → T x = true) (hj : jdg p dem lim s S = 0) : jdg p dem lim s T = 0 := by
  unfold jdg at *
  by_cases h1 : lessQ (prQ p.pts s.1) (lim, 1) = true
  · rw [if_pos h1] at hj; exact absurd hj (by decide)
  · rw [if_neg h1] at *
    by_cases h2 : (nxtA p s dem.2).isNone = true
    · rw [if_pos h2] at hj; exact absurd hj (by decide)
    · rw [if_neg h2] at *
      by_cases h3 : ((rngL dem).all fun n => S ((nxtA p s n).getD (0, false))) = true
      · rw [if_pos]
        rw [List.all_eq_true] at *
        exact fun n hn => h _ (h3 n hn)
      · rw [if_neg h3] at hj; exact absurd hj (by decide)
def inS (l : List OSt) (s : OSt) : Bool := l.any (· == s)
theorem inS_iff {l : List OSt} {s : OSt} : inS l s = true ↔ s ∈ l := by
  unfold inS
  rw [List.any_eq_true]
  constructor
  · rintro ⟨x, hx, e⟩
    have : x = s := by simpa using e
    subst this; exact hx
  · exact fun h => ⟨s, h, by simp⟩
/-- A set each of whose states is judged well. -/
def Clo (p : Plt) (dem : Int × Int) (lim : Int) (S : OSt → Bool) : Prop := ∀ s, S s = true → jdg p dem lim s S = 0
/-- All states of a plant, in order. -/
def allS (p : Plt) : List OSt := (List.range (capV p.pts + 1).toNat).flatMap fun (v : Nat) => [((v : Int), false), ((v : Int), true)]
theorem mem_allS {p : Plt} {s : OSt} : s ∈ allS p ↔ StOk p s := by
  obtain ⟨v, r⟩ := s
  unfold allS StOk
  rw [List.mem_flatMap]
  constructor
  · rintro ⟨k, hk, h⟩
    rw [List.mem_range] at hk
    simp only [List.mem_cons, List.not_mem_nil, or_false, Prod.mk.injEq] at h
    dsimp only
    omega
  · rintro ⟨h1, h2⟩
    dsimp only at h1 h2
    refine ⟨v.toNat, List.mem_range.2 (by omega), ?_⟩
    have e : ((v.toNat : Nat) : Int) = v := by omega
    cases r <;> simp [e]
theorem srt_allS (p : Plt) : SrtS (allS p) := by
  unfold allS SrtS
  rw [List.pairwise_flatMap]
  refine ⟨fun v _ => ?_, ?_⟩
  · simp [ltS]
  · refine List.Pairwise.imp ?_ List.pairwise_lt_range
    intro a b hab x hx y hy
    simp only [List.mem_cons, List.not_mem_nil, or_false] at hx hy
    unfold ltS
    rcases hx with rfl | rfl <;> rcases hy with rfl | rfl <;> simp <;> omega
def itS (p : Plt) (dem : Int × Int) (lim : Int) (l : List OSt) : List OSt := l.filter fun s => jdg p dem lim s (inS l) == 0
theorem itS_le (p : Plt) (dem : Int × Int) (lim : Int) (l : List OSt) : (itS p dem lim l).length ≤ l.length := List.length_filter_le ..
/-- The reference's way: again and again. -/
def safL (p : Plt) (dem : Int × Int) (lim : Int) : Nat → List OSt → List OSt
  | 0, l => l
  | n + 1, l => if (itS p dem lim l).length = l.length then l else safL p dem lim n (itS p dem lim l)
def safS (p : Plt) (dem : Int × Int) (lim : Int) : List OSt := safL p dem lim (allS p).length (allS p)
theorem filter_all {α : Type} {f : α → Bool} : ∀ {l : List α}, (l.filter f).length = l.length → ∀ x ∈ l, f x = true
  | [], _, x, hx => by cases hx
  | a :: l, h, x, hx => by
    by_cases ha : f a = true
    · rw [List.filter_cons_of_pos ha] at h
      simp only [List.length_cons, Nat.add_right_cancel_iff] at h
      rcases List.mem_cons.1 hx with rfl | hx
      · exact ha
      · exact filter_all h x hx
    · rw [List.filter_cons_of_neg ha] at h
      have := List.length_filter_le f l
      simp only [List.length_cons] at h
      omega
theorem safL_spec {p : Plt} {dem : Int × Int} {lim : Int} : ∀ (n : Nat) (l : List OSt), l.length ≤ n → Clo p dem lim (inS (safL p dem lim n l)) ∧ (∀ x ∈ safL p dem lim n l, x ∈ l) ∧ (∀ S, Clo p dem lim S → (∀ x, S x = true → x ∈ l) → ∀ x, S x = true → x ∈ safL p dem lim n l) ∧ (SrtS l → SrtS (safL p dem lim n l))
  | 0, l, h => by
    have e : l = [] := List.length_eq_zero_iff.1 (by omega)
    subst e
    refine ⟨fun s hs => ?_, fun x hx => hx, fun S _ h2 x hx => h2 x hx, fun h => h⟩
    have := inS_iff.1 hs; cases this
  | n + 1, l, h => by
    unfold safL
    by_cases he : (itS p dem lim l).length = l.length
    · rw [if_pos he]
      refine ⟨fun s hs => ?_, fun x hx => hx, fun S _ h2 x hx => h2 x hx, fun h => h⟩
      have := filter_all he s (inS_iff.1 hs)
      simpa using this
    · rw [if_neg he]
      have hlt := itS_le p dem lim l
      obtain ⟨h1, h2, h3, h4⟩ := safL_spec (p := p) (dem := dem) (lim := lim) n (itS p dem lim l) (by omega)
      refine ⟨h1, fun x hx => (List.mem_filter.1 (h2 x hx)).1, fun S hS hin x hx => h3 S hS (fun y hy => ?_) x hx, fun hs => h4 (List.Pairwise.filter _ hs)⟩
      refine List.mem_filter.2 ⟨hin y hy, ?_⟩
      have := jdg_mono (fun z hz => inS_iff.2 (hin z hz)) (hS y hy)
      rw [this]; rfl
/-- Whatever takes away only states that are judged ill, and stops when none is left to be taken away, is left with these. -/
theorem saf_any {p : Plt} {dem : Int × Int} {lim : Int} {S : OSt → Bool} (h1 : Clo p dem lim S) (h2 : ∀ x, S x = true → x ∈ allS p) (h3 : ∀ x ∈ safS p dem lim, S x = true) (x : OSt) : S x = true ↔ x ∈ safS p dem lim :=
  ⟨(safL_spec _ _ (Nat.le_refl _)).2.2.1 S h1 h2 x, h3 x⟩
/-- One that is judged ill in a greater set is not among them. -/
theorem saf_step {p : Plt} {dem : Int × Int} {lim : Int} {S : OSt → Bool} {s : OSt} (h3 : ∀ x ∈ safS p dem lim, S x = true) (hj : jdg p dem lim s S ≠ 0) : s ∉ safS p dem lim := fun hs =>
  hj (jdg_mono (fun z hz => h3 z (inS_iff.1 hz)) ((safL_spec _ _ (Nat.le_refl _)).1 s (inS_iff.2 hs)))
end
section
open Go.RowKit

theorem allS_len {p : Plt} (_h : 0 ≤ capV p.pts) : (allS p).length = 2 * (capV p.pts + 1).toNat := by
  unfold allS
  generalize (capV p.pts + 1).toNat = n
  induction n with
  | zero => rfl
  | succ n ih => rw [List.range_succ, List.flatMap_append, List.length_append, ih]; simp; omega
end
section
open Go.RowKit

/-- The plants of the examples. -/
def exP : Plt := ⟨[(0, 100), (10, 150), (30, 200)], 4, 150, 190⟩
def exS : Plt := ⟨[(0, 10), (4, 50)], 2, 30, 50⟩
def exC : List (Int × Int) := [(10, 12), (0, 2)]
theorem exS_saf : safS exS (0, 2) 20 = [(1, true), (2, true), (3, false), (3, true), (4, false), (4, true)] := by decide
end
end Go.Proofs.YtjfedpblkejmkaaGreat
