/-
  Texts of this claim, in their build order: OP4 OP8 OP9.
-/
import Derived.Test.YtjfedpblkejmkaaGreatEve11

/-
  Plain laws of classes: pressures are compared as volumes; the lowest pressure.
-/
namespace Go.Proofs.YtjfedpblkejmkaaGreat
open Go.RowKit

theorem less_up {l : List (Int × Int)} {v u : Int} (h : PtsOk l) (v0 : 0 ≤ v) (v1 : v ≤ capV l) (u0 : 0 ≤ u) (u1 : u ≤ capV l) : lessQ (prQ l v) (prQ l u) = decide (v < u) := by
  unfold lessQ
  by_cases hlt : v < u
  · rw [decide_eq_true hlt, decide_eq_true (prQ_up h v0 hlt u1)]
  · rw [decide_eq_false hlt]
    refine decide_eq_false fun hn => ?_
    rcases Int.lt_or_eq_of_le (show u ≤ v by omega) with h2 | h2
    · have := prQ_up h u0 h2 v1
      rw [Int.mul_comm (prQ l u).1, Int.mul_comm (prQ l v).1] at this
      have e1 := Int.mul_comm (prQ l u).1 (prQ l v).2
      have e2 := Int.mul_comm (prQ l v).1 (prQ l u).2
      omega
    · subst h2
      exact Int.lt_irrefl _ hn
theorem cmpQ_up {l : List (Int × Int)} {v u : Int} (h : PtsOk l) (v0 : 0 ≤ v) (v1 : v ≤ capV l) (u0 : 0 ≤ u) (u1 : u ≤ capV l) : cmpQ (rPr l v) (rPr l u) = (v - u).sign := by
  have d1 := (prQ_den h v0 v1).1
  have d2 := (prQ_den h u0 u1).1
  rw [rPr_eq h v0 v1, rPr_eq h u0 u1, cmp_fr (by omega) (by omega)]
  rcases Int.lt_trichotomy v u with h1 | h1 | h1
  · have := prQ_up h v0 h1 u1
    rw [Int.sign_eq_neg_one_of_neg (by omega), Int.sign_eq_neg_one_of_neg (by omega)]
  · subst h1
    rw [Int.sub_self, Int.sub_self]
  · have := prQ_up h u0 h1 v1
    rw [Int.sign_eq_one_of_pos (by omega), Int.sign_eq_one_of_pos (by omega)]
/-- One level: the lowest volume so far, and its tick. -/
def lowD (tick : Int) (s : Int × Int) (a : OSt × List Int) : Int × Int := if a.1.1 < s.2 then (tick, a.1.1) else s
def lowL (tick : Int) (s : Int × Int) (now : List (OSt × List Int)) : Int × Int := now.foldl (lowD tick) s
/-- All levels: none if some demands empty the plant. -/
def lowF : Int → (Int × Int) → List (List (OSt × List Int) × Option (List Int)) → Option (Int × Int)
  | _, s, [] => some s
  | tick, s, (now, none) :: l => lowF (tick + 1) (lowL tick s now) l
  | _, _, (_, some _) :: _ => none
theorem lowL_spec (tick : Int) : ∀ (now : List (OSt × List Int)) (s : Int × Int), (∀ a ∈ now, (lowL tick s now).2 ≤ a.1.1) ∧ (lowL tick s now).2 ≤ s.2 ∧ ((lowL tick s now).2 = s.2 ∧ lowL tick s now = s ∨ (lowL tick s now).1 = tick ∧ (lowL tick s now).2 < s.2 ∧ ∃ a ∈ now, a.1.1 = (lowL tick s now).2)
  | [], s => ⟨fun _ h => (by cases h), Int.le_refl s.2, Or.inl ⟨rfl, rfl⟩⟩
  | a :: now, s => by
    have ih := lowL_spec tick now (lowD tick s a)
    have e : lowL tick s (a :: now) = lowL tick (lowD tick s a) now := rfl
    rw [e]
    obtain ⟨h1, h2, h3⟩ := ih
    unfold lowD at *
    by_cases c : a.1.1 < s.2
    · rw [if_pos c] at *
      dsimp only at *
      refine ⟨fun b hb => ?_, by omega, .inr ?_⟩
      · rcases List.mem_cons.1 hb with rfl | hb
        · exact h2
        · exact h1 b hb
      · rcases h3 with ⟨e1, e2⟩ | ⟨e1, e2, b, hb, e3⟩
        · rw [e2]; exact ⟨rfl, c, a, List.mem_cons_self .., rfl⟩
        · exact ⟨e1, by omega, b, List.mem_cons_of_mem _ hb, e3⟩
    · rw [if_neg c] at *
      refine ⟨fun b hb => ?_, h2, ?_⟩
      · rcases List.mem_cons.1 hb with rfl | hb
        · omega
        · exact h1 b hb
      · rcases h3 with h3 | ⟨e1, e2, b, hb, e3⟩
        · exact .inl h3
        · exact .inr ⟨e1, e2, b, List.mem_cons_of_mem _ hb, e3⟩
/-- The lowest of a level that is a sorted set is its first state. -/
theorem lowL_eq {tick : Int} {now : List (OSt × List Int)} {m : List OSt} {s : Int × Int} (hm : ∀ x, x ∈ m ↔ x ∈ sts now) (hs : SrtS m) (x : OSt) (l : List OSt) (e : m = x :: l) : lowL tick s now = if x.1 < s.2 then (tick, x.1) else s := by
  obtain ⟨h1, h2, h3⟩ := lowL_spec tick now s
  subst e
  have hmin : ∀ a ∈ now, x.1 ≤ a.1.1 := fun a ha => by
    have := (hm a.1).2 (List.mem_map.2 ⟨a, ha, rfl⟩)
    rcases List.mem_cons.1 this with e | h
    · rw [e]; exact Int.le_refl _
    · have := (List.pairwise_cons.1 hs).1 _ h
      unfold ltS at this
      simp only [Bool.or_eq_true, Bool.and_eq_true, decide_eq_true_eq, beq_iff_eq] at this
      omega
  have hx : ∃ a ∈ now, a.1 = x := List.mem_map.1 ((hm x).1 (List.mem_cons_self ..))
  obtain ⟨a, ha, ea⟩ := hx
  have hxa := h1 a ha
  rw [ea] at hxa
  by_cases c : x.1 < s.2
  · rw [if_pos c]
    rcases h3 with ⟨e1, -⟩ | ⟨e1, e2, b, hb, e3⟩
    · omega
    · have := hmin b hb
      exact Prod.ext e1 (by dsimp only; omega)
  · rw [if_neg c]
    rcases h3 with ⟨-, e2⟩ | ⟨e1, e2, b, hb, e3⟩
    · exact e2
    · have := hmin b hb; omega

end Go.Proofs.YtjfedpblkejmkaaGreat

/-
  Plain laws of classes: each state of a level is reached by its demands, and every demands of the class lead to a state of the level.
-/
namespace Go.Proofs.YtjfedpblkejmkaaGreat
open Go.RowKit

/-- Where demands lead to; none if one empties the plant. -/
def goQ (p : Plt) : OSt → List Int → Option OSt
  | s, [] => some s
  | s, d :: ds => (nxtA p s d).bind fun t => goQ p t ds
theorem goQ_app (p : Plt) : ∀ (ds es : List Int) (s : OSt), goQ p s (ds ++ es) = (goQ p s ds).bind fun t => goQ p t es
  | [], es, s => rfl
  | d :: ds, es, s => by
    show (nxtA p s d).bind (fun t => goQ p t (ds ++ es)) = ((nxtA p s d).bind fun t => goQ p t ds).bind _
    cases nxtA p s d with
    | none => rfl
    | some t => exact goQ_app p ds es t
theorem goQ_snoc (p : Plt) (ds : List Int) (n : Int) (s : OSt) : goQ p s (ds ++ [n]) = (goQ p s ds).bind fun t => nxtA p t n := by
  rw [goQ_app]
  congr 1
  funext t
  show (nxtA p t n).bind (fun t => some t) = _
  cases nxtA p t n <;> rfl
/-- Demands of a class. -/
def inC (c : List (Int × Int)) (ds : List Int) : Prop := ds.length = c.length ∧ ∀ i, i < c.length → gi ds i ∈ rngL (fg c i)
theorem inC_nil {ds : List Int} : inC [] ds ↔ ds = [] := by
  unfold inC
  constructor
  · intro h; exact List.length_eq_zero_iff.1 h.1
  · rintro rfl; exact ⟨rfl, fun i hi => by simp at hi⟩
theorem gi_app1 {l m : List Int} {i : Nat} (h : i < l.length) : gi (l ++ m) i = gi l i := by
  unfold gi
  rw [List.getD_eq_getElem?_getD, List.getD_eq_getElem?_getD, List.getElem?_append_left h]
theorem gi_app2 {l : List Int} (x : Int) : gi (l ++ [x]) l.length = x := by
  unfold gi
  rw [List.getD_eq_getElem?_getD, List.getElem?_append_right (Nat.le_refl _), Nat.sub_self]; rfl
theorem fg_snoc1 {l : List (Int × Int)} {r : Int × Int} {i : Nat} (h : i < l.length) : fg (l ++ [r]) i = fg l i := by
  unfold fg
  rw [List.getD_eq_getElem?_getD, List.getD_eq_getElem?_getD, List.getElem?_append_left h]
theorem fg_snoc2 (l : List (Int × Int)) (r : Int × Int) : fg (l ++ [r]) l.length = r := by
  unfold fg
  rw [List.getD_eq_getElem?_getD, List.getElem?_append_right (Nat.le_refl _), Nat.sub_self]; rfl
theorem inC_snoc {c : List (Int × Int)} {r : Int × Int} {ds : List Int} : inC (c ++ [r]) ds ↔ ∃ es n, ds = es ++ [n] ∧ inC c es ∧ n ∈ rngL r := by
  unfold inC
  rw [List.length_append, List.length_singleton]
  constructor
  · rintro ⟨hl, h⟩
    have hne : ds ≠ [] := fun e => by rw [e] at hl; simp at hl
    obtain ⟨es, n, e⟩ : ∃ es n, ds = es ++ [n] := ⟨ds.dropLast, ds.getLast hne, (List.dropLast_concat_getLast hne).symm⟩
    subst e
    rw [List.length_append, List.length_singleton] at hl
    have hl' : es.length = c.length := by omega
    refine ⟨es, n, rfl, ⟨hl', fun i hi => ?_⟩, ?_⟩
    · have := h i (by omega)
      rwa [gi_app1 (by omega), fg_snoc1 hi] at this
    · have := h c.length (by omega)
      rwa [fg_snoc2, ← hl', gi_app2] at this
  · rintro ⟨es, n, rfl, ⟨hl, h⟩, hn⟩
    rw [List.length_append, List.length_singleton]
    refine ⟨by omega, fun i hi => ?_⟩
    by_cases hic : i < c.length
    · rw [gi_app1 (by omega), fg_snoc1 hic]; exact h i hic
    · obtain rfl : i = c.length := by omega
      rw [fg_snoc2, ← hl, gi_app2]; exact hn
/-- Each state is reached by its demands. -/
def LvA (p : Plt) (s : OSt) (c : List (Int × Int)) (now : List (OSt × List Int)) : Prop := ∀ a ∈ now, inC c a.2 ∧ goQ p s a.2 = some a.1
/-- A whole level. -/
structure LvOk (p : Plt) (s : OSt) (c : List (Int × Int)) (now : List (OSt × List Int)) : Prop where
  way : LvA p s c now
  all : ∀ ds, inC c ds → ∃ t, goQ p s ds = some t ∧ t ∈ sts now
  nd : (sts now).Nodup
theorem LvOk.start (p : Plt) (s : OSt) : LvOk p s [] [(s, [])] :=
  ⟨fun a ha => by
    have : a = (s, []) := by simpa using ha
    subst this; exact ⟨inC_nil.2 rfl, rfl⟩, fun ds h => by rw [inC_nil.1 h]; exact ⟨s, rfl, by simp [sts]⟩, by simp [sts]⟩
/-- What holds while the next level is found. -/
def StpA (p : Plt) (s : OSt) (c : List (Int × Int)) (k : Tks) : Prop := LvA p s c k.aft ∧ ∀ e, k.emp = some e → inC c e ∧ goQ p s e = none ∧ ∃ es n t, e = es ++ [n] ∧ goQ p s es = some t
theorem tkD_way {p : Plt} {s : OSt} {c : List (Int × Int)} {r : Int × Int} {a : OSt × List Int} {k : Tks} {n : Int} (ha : inC c a.2 ∧ goQ p s a.2 = some a.1) (hn : n ∈ rngL r) (h : StpA p s (c ++ [r]) k) : StpA p s (c ++ [r]) (tkD p a k n) := by
  obtain ⟨h1, h2⟩ := h
  have hin : inC (c ++ [r]) (a.2 ++ [n]) := inC_snoc.2 ⟨a.2, n, rfl, ha.1, hn⟩
  have hgo : goQ p s (a.2 ++ [n]) = nxtA p a.1 n := by rw [goQ_snoc, ha.2]; rfl
  unfold tkD
  cases e : nxtA p a.1 n with
  | none =>
    refine ⟨h1, fun x hx => ?_⟩
    dsimp only at hx
    cases hk : k.emp with
    | none =>
      rw [hk] at hx
      cases hx
      exact ⟨hin, by rw [hgo, e], a.2, n, a.1, rfl, ha.2⟩
    | some y =>
      rw [hk] at hx
      cases hx
      exact h2 _ hk
  | some t =>
    dsimp only
    split
    · exact ⟨h1, h2⟩
    · refine ⟨fun b hb => ?_, h2⟩
      rcases List.mem_append.1 hb with hb | hb
      · exact h1 b hb
      · have : b = (t, a.2 ++ [n]) := by simpa using hb
        subst this
        exact ⟨hin, by rw [hgo, e]⟩
theorem foldD_way {p : Plt} {s : OSt} {c : List (Int × Int)} {r : Int × Int} {a : OSt × List Int} (ha : inC c a.2 ∧ goQ p s a.2 = some a.1) : ∀ (l : List Int) (k : Tks), (∀ n ∈ l, n ∈ rngL r) → StpA p s (c ++ [r]) k → StpA p s (c ++ [r]) (l.foldl (tkD p a) k)
  | [], _, _, h => h
  | n :: l, _, hl, h => foldD_way ha l _ (fun m hm => hl m (List.mem_cons_of_mem _ hm)) (tkD_way ha (hl n (List.mem_cons_self ..)) h)
theorem foldR_way {p : Plt} {s : OSt} {c : List (Int × Int)} {r : Int × Int} : ∀ (now : List (OSt × List Int)) (k : Tks), LvA p s c now → StpA p s (c ++ [r]) k → StpA p s (c ++ [r]) (now.foldl (tkR p r) k)
  | [], _, _, h => h
  | a :: now, _, hl, h => foldR_way now _ (fun b hb => hl b (List.mem_cons_of_mem _ hb)) (foldD_way (hl a (List.mem_cons_self ..)) (rngL r) _ (fun _ h => h) h)
theorem tkL_way {p : Plt} {s : OSt} {c : List (Int × Int)} {r : Int × Int} {now : List (OSt × List Int)} (h : LvA p s c now) : StpA p s (c ++ [r]) (tkL p r now) :=
  foldR_way now _ h ⟨fun _ ha => (by cases ha), fun _ he => (by cases he)⟩
/-- The next level, if nothing empties the plant. -/
theorem LvOk.next {p : Plt} {s : OSt} {c : List (Int × Int)} {r : Int × Int} {now : List (OSt × List Int)} (h : LvOk p s c now) (he : (tkL p r now).emp = none) : LvOk p s (c ++ [r]) (tkL p r now).aft := by
  obtain ⟨h1, h2, h3⟩ := foldR_all (p := p) (r := r) now ⟨[], none⟩
  refine ⟨(tkL_way h.way).1, fun ds hds => ?_, h3 (by simp [sts])⟩
  obtain ⟨es, n, rfl, he1, hn⟩ := inC_snoc.1 hds
  obtain ⟨t, ht, htn⟩ := h.all es he1
  have hno : ¬ Emp p r (sts now) := (h2.1 he).2
  cases e : nxtA p t n with
  | none => exact absurd ⟨t, htn, n, hn, e⟩ hno
  | some u =>
    refine ⟨u, by rw [goQ_snoc, ht]; exact e, ?_⟩
    exact (h1 u).2 (.inr ⟨t, htn, n, hn, e⟩)
/-- If something empties the plant: demands of the class that do. -/
theorem LvOk.stop {p : Plt} {s : OSt} {c : List (Int × Int)} {r : Int × Int} {now : List (OSt × List Int)} (h : LvOk p s c now) {e : List Int} (he : (tkL p r now).emp = some e) : inC (c ++ [r]) e ∧ goQ p s e = none ∧ ∃ es n t, e = es ++ [n] ∧ goQ p s es = some t :=
  (tkL_way h.way).2 e he

end Go.Proofs.YtjfedpblkejmkaaGreat

/-
  Plain laws of classes: the witness, and what it says.
-/
namespace Go.Proofs.YtjfedpblkejmkaaGreat
open Go.RowKit

/-- Is the pressure of a state below a limit? -/
def blwQ (p : Plt) (lim : Int) (t : OSt) : Bool := lessQ (prQ p.pts t.1) (lim, 1)
/-- Demands that empty nothing, and lead to a pressure that is not below. -/
def GdQ (p : Plt) (s : OSt) (lim : Int) (ds : List Int) : Prop := ∃ t, goQ p s ds = some t ∧ blwQ p lim t = false
/-- slices.Compare. -/
def cmpL : List Int → List Int → Int
  | [], [] => 0
  | [], _ :: _ => -1
  | _ :: _, [] => 1
  | a :: l, b :: m => if a < b then -1 else if b < a then 1 else cmpL l m
/-- The program's witness. -/
def witA (p : Plt) (lim : Int) : List (List (OSt × List Int) × Option (List Int)) → Option (List Int)
  | [] => none
  | (now, emp) :: l => match now.find? (fun a => blwQ p lim a.1), emp with
    | some a, none => some a.2
    | some a, some e => if cmpL a.2 e < 0 then some a.2 else some e
    | none, some e => some e
    | none, none => witA p lim l
theorem LvOk.good {p : Plt} {s : OSt} {c : List (Int × Int)} {now : List (OSt × List Int)} {lim : Int} (h : LvOk p s c now) (hf : now.find? (fun a => blwQ p lim a.1) = none) {ds : List Int} (hd : inC c ds) : GdQ p s lim ds := by
  obtain ⟨t, ht, hm⟩ := h.all ds hd
  obtain ⟨a, ha, rfl⟩ := List.mem_map.1 hm
  have := List.find?_eq_none.1 hf a ha
  exact ⟨a.1, ht, by simpa using this⟩
theorem LvA.bad {p : Plt} {s : OSt} {c : List (Int × Int)} {now : List (OSt × List Int)} {lim : Int} (h : LvA p s c now) {a : OSt × List Int} (hf : now.find? (fun a => blwQ p lim a.1) = some a) : inC c a.2 ∧ ¬ GdQ p s lim a.2 ∧ ∃ t, goQ p s a.2 = some t := by
  obtain ⟨h1, h2⟩ := h a (List.mem_of_find?_eq_some hf)
  have h3 : blwQ p lim a.1 = true := by simpa using List.find?_some hf
  refine ⟨h1, fun ⟨t, ht, hb⟩ => ?_, a.1, h2⟩
  rw [h2] at ht
  cases ht
  rw [h3] at hb; cases hb
theorem take_pre {pre rs : List (Int × Int)} : (pre ++ rs).take pre.length = pre := by rw [List.take_append_of_le_length (Nat.le_refl _), List.take_length]
theorem take_pre1 {pre rs : List (Int × Int)} {r : Int × Int} : (pre ++ r :: rs).take (pre.length + 1) = pre ++ [r] := by
  rw [show pre ++ r :: rs = (pre ++ [r]) ++ rs by simp, show pre.length + 1 = (pre ++ [r]).length by simp, take_pre]
/-- What the witness says. -/
structure WitS (p : Plt) (s : OSt) (c : List (Int × Int)) (lim : Int) (k0 : Nat) (w : List Int) : Prop where
  ge : k0 ≤ w.length
  len : w.length ≤ c.length
  cls : inC (c.take w.length) w
  bad : ¬ GdQ p s lim w
  low : ∀ j, j < w.length → k0 ≤ j → ∀ ds, inC (c.take j) ds → GdQ p s lim ds
  way : ∀ n, n < w.length → ∃ t, goQ p s (w.take n) = some t
theorem goQ_take {p : Plt} : ∀ {ds : List Int} {s t : OSt}, goQ p s ds = some t → ∀ n, ∃ u, goQ p s (ds.take n) = some u
  | [], s, _, _, n => ⟨s, by simp [goQ]⟩
  | d :: ds, s, t, h, 0 => ⟨s, rfl⟩
  | d :: ds, s, t, h, n + 1 => by
    have h' : (nxtA p s d).bind (fun u => goQ p u ds) = some t := h
    cases e : nxtA p s d with
    | none => rw [e] at h'; cases h'
    | some u =>
      rw [e] at h'
      obtain ⟨v, hv⟩ := goQ_take h' n
      exact ⟨v, by show (nxtA p s d).bind (fun u => goQ p u (ds.take n)) = some v; rw [e]; exact hv⟩
theorem wit_law {p : Plt} {s : OSt} {lim : Int} : ∀ (rs pre : List (Int × Int)) (now : List (OSt × List Int)), LvOk p s pre now →
    (∀ w, witA p lim (tks p rs now) = some w → WitS p s (pre ++ rs) lim pre.length w) ∧
    (witA p lim (tks p rs now) = none → ∀ k, pre.length ≤ k → k ≤ (pre ++ rs).length → ∀ ds, inC ((pre ++ rs).take k) ds → GdQ p s lim ds) := by
  intro rs
  induction rs with
  | nil =>
    intro pre now h
    unfold tks witA
    rw [List.append_nil]
    cases hf : now.find? (fun a => blwQ p lim a.1) with
    | some a =>
      dsimp only
      refine ⟨fun w hw => ?_, fun hn => by cases hn⟩
      cases hw
      obtain ⟨b1, b2, t, b3⟩ := h.way.bad hf
      have e := b1.1
      exact ⟨by omega, by omega, by rw [e, List.take_length]; exact b1, b2, fun j h1 h2 => by omega, fun n _ => goQ_take b3 n⟩
    | none =>
      dsimp only
      refine ⟨fun w hw => ?_, fun _ k hk1 hk2 ds hds => ?_⟩
      · unfold witA at hw; cases hw
      · obtain rfl : k = pre.length := by omega
        rw [List.take_length] at hds
        exact h.good hf hds
  | cons r rs ih =>
    intro pre now h
    unfold tks witA
    cases hf : now.find? (fun a => blwQ p lim a.1) with
    | some a =>
      dsimp only
      refine ⟨fun w hw => ?_, fun hn => by cases hn⟩
      cases hw
      obtain ⟨b1, b2, t, b3⟩ := h.way.bad hf
      have e := b1.1
      exact ⟨by omega, by rw [List.length_append]; omega, by rw [e, take_pre]; exact b1, b2, fun j h1 h2 => by omega, fun n _ => goQ_take b3 n⟩
    | none =>
      dsimp only
      have hg : ∀ ds, inC ((pre ++ r :: rs).take pre.length) ds → GdQ p s lim ds := fun ds hds => by rw [take_pre] at hds; exact h.good hf hds
      cases he : (tkL p r now).emp with
      | some e =>
        dsimp only
        obtain ⟨s1, s2, es, n, t, s3, s4⟩ := h.stop he
        have hway := (tkL_way (r := r) h.way).1
        have fin : ∀ w, inC (pre ++ [r]) w → ¬ GdQ p s lim w → (∀ n, n < w.length → ∃ t, goQ p s (w.take n) = some t) → WitS p s (pre ++ r :: rs) lim pre.length w := fun w w1 w2 w3 => by
          have el := w1.1
          rw [List.length_append, List.length_singleton] at el
          refine ⟨by omega, by rw [List.length_append, List.length_cons]; omega, by rw [el, take_pre1]; exact w1, w2, fun j h1 h2 ds hds => ?_, w3⟩
          obtain rfl : j = pre.length := by omega
          exact hg ds hds
        have fe : WitS p s (pre ++ r :: rs) lim pre.length e := fin e s1 (fun ⟨t, ht, _⟩ => by rw [s2] at ht; cases ht) (fun m hm => by
          rw [s3] at hm ⊢
          rw [List.length_append, List.length_singleton] at hm
          rw [List.take_append_of_le_length (by omega)]
          exact goQ_take s4 m)
        unfold witA
        cases hf2 : (tkL p r now).aft.find? (fun a => blwQ p lim a.1) with
        | some a =>
          dsimp only
          obtain ⟨b1, b2, t', b3⟩ := hway.bad hf2
          have fa := fin a.2 b1 b2 (fun n _ => goQ_take b3 n)
          refine ⟨fun w hw => ?_, fun hn => ?_⟩
          · split at hw
            · cases hw; exact fa
            · cases hw; exact fe
          · split at hn <;> cases hn
        | none =>
          dsimp only
          exact ⟨fun w hw => (by cases hw; exact fe), fun hn => by cases hn⟩
      | none =>
        dsimp only
        obtain ⟨i1, i2⟩ := ih (pre ++ [r]) (tkL p r now).aft (h.next he)
        rw [show (pre ++ [r]) ++ rs = pre ++ r :: rs by simp, show (pre ++ [r]).length = pre.length + 1 by simp] at i1 i2
        refine ⟨fun w hw => ?_, fun hn k hk1 hk2 ds hds => ?_⟩
        · obtain ⟨a1, a2, a3, a4, a5, a6⟩ := i1 w hw
          refine ⟨by omega, a2, a3, a4, fun j h1 h2 ds hds => ?_, a6⟩
          by_cases hj : j = pre.length
          · subst hj; exact hg ds hds
          · exact a5 j h1 (by omega) ds hds
        · by_cases hk : k = pre.length
          · subst hk; exact hg ds hds
          · exact i2 hn k (by omega) hk2 ds hds

end Go.Proofs.YtjfedpblkejmkaaGreat

