/-
  Texts of this claim, in their build order: OP8 OP9 OP10.
-/
import Derived.Test.YtbpcapcgbnbknaaGreatOne28

namespace Go.Proofs.YtbpcapcgbnbknaaGreat
section
open Go.RowKit

/-- Where demands lead to; none if one empties the plant. -/
def goQ (p : Plt) : OSt → List Int → Option OSt
  | s, [] => some s
  | s, d :: ds => (nxtA p s d).bind fun t => goQ p t ds
theorem goQ_app (p : Plt) : ∀ (ds es : List Int) (s : OSt), goQ p s (ds ++ es) = (goQ p s ds).bind fun t => goQ p t es
  | [], es, s => rfl
  | d :: ds, es, s => by
    show (nxtA p s d).bind (fun t => goQ p t (ds ++ es)) = ((nxtA p s d).bind fun t => goQ p t ds).bind _
    cases nxtA p s d with
    | none => rfl
    | some t => exact goQ_app p ds es t
theorem goQ_snoc (p : Plt) (ds : List Int) (n : Int) (s : OSt) : goQ p s (ds ++ [n]) = (goQ p s ds).bind fun t => nxtA p t n := by
  rw [goQ_app]
  congr 1
  funext t
  show (nxtA p t n).bind (fun t => some t) = _
  cases nxtA p t n <;> rfl
/-- Demands of a class. -/
def inC (c : List (Int × Int)) (ds : List Int) : Prop := ds.length = c.length ∧ ∀ i, i < c.length → gi ds i ∈ rngL (fg c i)
theorem inC_nil {ds : List Int} : inC [] ds ↔ ds = [] := by
  unfold inC
  constructor
  · intro h; exact List.length_eq_zero_iff.1 h.1
  · rintro rfl; exact ⟨rfl, fun i hi => by simp at hi⟩
theorem gi_app1 {l m : List Int} {i : Nat} (h : i < l.length) : gi (l ++ m) i = gi l i := by
  unfold gi
  rw [List.getD_eq_getElem?_getD, List.getD_eq_getElem?_getD, List.getElem?_append_left h]
theorem gi_app2 {l : List Int} (x : Int) : gi (l ++ [x]) l.length = x := by
  unfold gi
  rw [List.getD_eq_getElem?_getD, List.getElem?_append_right (Nat.le_refl _), Nat.sub_self]; rfl
theorem fg_snoc1 {l : List (Int × Int)} {r : Int × Int} {i : Nat} (h : i < l.length) : fg (l ++ [r]) i = fg l i := by
  unfold fg
  rw [List.getD_eq_getElem?_getD, List.getD_eq_getElem?_getD, List.getElem?_append_left h]
theorem fg_snoc2 (l : List (Int × Int)) (r : Int × Int) : fg (l ++ [r]) l.length = r := by
  unfold fg
  rw [List.getD_eq_getElem?_getD, List.getElem?_append_right (Nat.le_refl _), Nat.sub_self]; rfl
theorem inC_snoc {c : List (Int × Int)} {r : Int × Int} {ds : List Int} : inC (c ++ [r]) ds ↔ ∃ es n, ds = es ++ [n] ∧ inC c es ∧ n ∈ rngL r := by
  unfold inC
  rw [List.length_append, List.length_singleton]
  constructor
  · rintro ⟨hl, h⟩
    have hne : ds ≠ [] := fun e => by rw [e] at hl; simp at hl
    obtain ⟨es, n, e⟩ : ∃ es n, ds = es ++ [n] := ⟨ds.dropLast, ds.getLast hne, (List.dropLast_concat_getLast hne).symm⟩
    subst e
    rw [List.length_append, List.length_singleton] at hl
    have hl' : es.length = c.length := by omega
    refine ⟨es, n, rfl, ⟨hl', fun i hi => ?_⟩, ?_⟩
    · have := h i (by omega)
      rwa [gi_app1 (by omega), fg_snoc1 hi] at this
    · have := h c.length (by omega)
      rwa [fg_snoc2, ← hl', gi_app2] at this
  · rintro ⟨es, n, rfl, ⟨hl, h⟩, hn⟩
    rw [List.length_append, List.length_singleton]
    refine ⟨by omega, fun i hi => ?_⟩
    by_cases hic : i < c.length
    · rw [gi_app1 (by omega), fg_snoc1 hic]; exact h i hic
    · obtain rfl : i = c.length := by omega
      rw [fg_snoc2, ← hl, gi_app2]; exact hn
/-- Each state is reached by its demands. -/
def LvA (p : Plt) (s : OSt) (c : List (Int × Int)) (now : List (OSt × List Int)) : Prop := ∀ a ∈ now, inC c a.2 ∧ goQ p s a.2 = some a.1
/-- A whole level. -/
structure LvOk (p : Plt) (s : OSt) (c : List (Int × Int)) (now : List (OSt × List Int)) : Prop where
  way : LvA p s c now
  all : ∀ ds, inC c ds → ∃ t, goQ p s ds = some t ∧ t ∈ sts now
  nd : (sts now).Nodup
theorem LvOk.start (p : Plt) (s : OSt) : LvOk p s [] [(s, [])] :=
  ⟨fun a ha => by
    have : a = (s, []) := by simpa using ha
    subst this; exact ⟨inC_nil.2 rfl, rfl⟩, fun ds h => by rw [inC_nil.1 h]; exact ⟨s, rfl, by simp [sts]⟩, by simp [sts]⟩
/-- What holds while the next level is found. -/
def StpA (p : Plt) (s : OSt) (c : List (Int × Int)) (k : Tks) : Prop := LvA p s c k.aft ∧ ∀ e, k.emp = some e → inC c e ∧ goQ p s e = none ∧ ∃ es n t, e = es ++ [n] ∧ goQ p s es = some t
theorem tkD_way {p : Plt} {s : OSt} {c : List (Int × Int)} {r : Int × Int} {a : OSt × List Int} {k : Tks} {n : Int} (ha : inC c a.2 ∧ goQ p s a.2 = some a.1) (hn : n ∈ rngL r) (h : StpA p s (c ++ [r]) k) : StpA p s (c ++ [r]) (tkD p a k n) := by
  obtain ⟨h1, h2⟩ := h
  have hin : inC (c ++ [r]) (a.2 ++ [n]) := inC_snoc.2 ⟨a.2, n, rfl, ha.1, hn⟩
  have hgo : goQ p s (a.2 ++ [n]) = nxtA p a.1 n := by rw [goQ_snoc, ha.2]; rfl
  unfold tkD
  cases e : nxtA p a.1 n with
  | none =>
    refine ⟨h1, fun x hx => ?_⟩
    dsimp only at hx
    cases hk : k.emp with
    | none =>
      rw [hk] at hx
      cases hx
      exact ⟨hin, by rw [hgo, e], a.2, n, a.1, rfl, ha.2⟩
    | some y =>
      rw [hk] at hx
      cases hx
      exact h2 _ hk
  | some t =>
    dsimp only
    split
    · exact ⟨h1, h2⟩
    · refine ⟨fun b hb => ?_, h2⟩
      rcases List.mem_append.1 hb with hb | hb
      · exact h1 b hb
      · have : b = (t, a.2 ++ [n]) := by simpa using hb
        subst this
        exact ⟨hin, by rw [hgo, e]⟩
theorem foldD_way {p : Plt} {s : OSt} {c : List (Int × Int)} {r : Int × Int} {a : OSt × List Int} (ha : inC c a.2 ∧ goQ p s a.2 = some a.1) : ∀ (l : List Int) (k : Tks), (∀ n ∈ l, n ∈ rngL r) → StpA p s (c ++ [r]) k → StpA p s (c ++ [r]) (l.foldl (tkD p a) k)
  | [], _, _, h => h
  | n :: l, _, hl, h => foldD_way ha l _ (fun m hm => hl m (List.mem_cons_of_mem _ hm)) (tkD_way ha (hl n (List.mem_cons_self ..)) h)
theorem foldR_way {p : Plt} {s : OSt} {c : List (Int × Int)} {r : Int × Int} : ∀ (now : List (OSt × List Int)) (k : Tks), LvA p s c now → StpA p s (c ++ [r]) k → StpA p s (c ++ [r]) (now.foldl (tkR p r) k)
  | [], _, _, h => h
  | a :: now, _, hl, h => foldR_way now _ (fun b hb => hl b (List.mem_cons_of_mem _ hb)) (foldD_way (hl a (List.mem_cons_self ..)) (rngL r) _ (fun _ h => h) h)
theorem tkL_way {p : Plt} {s : OSt} {c : List (Int × Int)} {r : Int × Int} {now : List (OSt × List Int)} (h : LvA p s c now) : StpA p s (c ++ [r]) (tkL p r now) :=
  foldR_way now _ h ⟨fun _ ha => (by cases ha), fun _ he => (by cases he)⟩
/-- The next level, if nothing empties the plant. -/
theorem LvOk.next {p : Plt} {s : OSt} {c : List (Int × Int)} {r : Int × Int} {now : List (OSt × List Int)} (h : LvOk p s c now) (he : (tkL p r now).emp = none) : LvOk p s (c ++ [r]) (tkL p r now).aft := by
  obtain ⟨h1, h2, h3⟩ := foldR_all (p := p) (r := r) now ⟨[], none⟩
  refine ⟨(tkL_way h.way).1, fun ds hds => ?_, h3 (by simp [sts])⟩
  obtain ⟨es, n, rfl, he1, hn⟩ := inC_snoc.1 hds
  obtain ⟨t, ht, htn⟩ := h.all es he1
  have hno : ¬ Emp p r (sts now) := (h2.1 he).2
  cases e : nxtA p t n with
  | none => exact absurd ⟨t, htn, n, hn, e⟩ hno
  | some u =>
    refine ⟨u, by rw [goQ_snoc, ht]; exact e, ?_⟩
    exact (h1 u).2 (.inr ⟨t, htn, n, hn, e⟩)
/-- If something empties the plant: demands of the class that do. -/
theorem LvOk.stop {p : Plt} {s : OSt} {c : List (Int × Int)} {r : Int × Int} {now : List (OSt × List Int)} (h : LvOk p s c now) {e : List Int} (he : (tkL p r now).emp = some e) : inC (c ++ [r]) e ∧ goQ p s e = none ∧ ∃ es n t, e = es ++ [n] ∧ goQ p s es = some t :=
  (tkL_way h.way).2 e he
end
section
open Go.RowKit

/-- Is the pressure of a state below a limit? -/
def blwQ (p : Plt) (lim : Int) (t : OSt) : Bool := lessQ (prQ p.pts t.1) (lim, 1)
/-- Demands that empty nothing, and lead to a pressure that is not below. -/
def GdQ (p : Plt) (s : OSt) (lim : Int) (ds : List Int) : Prop := ∃ t, goQ p s ds = some t ∧ blwQ p lim t = false
/-- slices.Compare. -/
def cmpL : List Int → List Int → Int
  | [], [] => 0
  | [], _ :: _ => -1
  | _ :: _, [] => 1
  | a :: l, b :: m => if a < b then -1 else if b < a then 1 else cmpL l m
/-- The program's witness. -/
def witA (p : Plt) (lim : Int) : List (List (OSt × List Int) × Option (List Int)) → Option (List Int)
  | [] => none
  | (now, emp) :: l => match now.find? (fun a => blwQ p lim a.1), emp with
    | some a, none => some a.2
    | some a, some e => if cmpL a.2 e < 0 then some a.2 else some e
    | none, some e => some e
    | none, none => witA p lim l
theorem LvOk.good {p : Plt} {s : OSt} {c : List (Int × Int)} {now : List (OSt × List Int)} {lim : Int} (h : LvOk p s c now) (hf : now.find? (fun a => blwQ p lim a.1) = none) {ds : List Int} (hd : inC c ds) : GdQ p s lim ds := by
  obtain ⟨t, ht, hm⟩ := h.all ds hd
  obtain ⟨a, ha, rfl⟩ := List.mem_map.1 hm
  have := List.find?_eq_none.1 hf a ha
  exact ⟨a.1, ht, by simpa using this⟩
theorem LvA.bad {p : Plt} {s : OSt} {c : List (Int × Int)} {now : List (OSt × List Int)} {lim : Int} (h : LvA p s c now) {a : OSt × List Int} (hf : now.find? (fun a => blwQ p lim a.1) = some a) : inC c a.2 ∧ ¬ GdQ p s lim a.2 ∧ ∃ t, goQ p s a.2 = some t := by
  obtain ⟨h1, h2⟩ := h a (List.mem_of_find?_eq_some hf)
  have h3 : blwQ p lim a.1 = true := by simpa using List.find?_some hf
  refine ⟨h1, fun ⟨t, ht, hb⟩ => ?_, a.1, h2⟩
  rw [h2] at ht
  cases ht
  rw [h3] at hb; cases hb
theorem take_pre {pre rs : List (Int × Int)} : (pre ++ rs).take pre.length = pre := by rw [List.take_append_of_le_length (Nat.le_refl _), List.take_length]
theorem take_pre1 {pre rs : List (Int × Int)} {r : Int × Int} : (pre ++ r :: rs).take (pre.length + 1) = pre ++ [r] := by
  rw [show pre ++ r :: rs = (pre ++ [r]) ++ rs by simp, show pre.length + 1 = (pre ++ [r]).length by simp, take_pre]
/-- What the witness says. -/
structure WitS (p : Plt) (s : OSt) (c : List (Int × Int)) (lim : Int) (k0 : Nat) (w : List Int) : Prop where
  ge : k0 ≤ w.length
  len : w.length ≤ c.length
  cls : inC (c.take w.length) w
  bad : ¬ GdQ p s lim w
  low : ∀ j, j < w.length → k0 ≤ j → ∀ ds, inC (c.take j) ds → GdQ p s lim ds
  way : ∀ n, n < w.length → ∃ t, goQ p s (w.take n) = some t
theorem goQ_take {p : Plt} : ∀ {ds : List Int} {s t : OSt}, goQ p s ds = some t → ∀ n, ∃ u, goQ p s (ds.take n) = some u
  | [], s, _, _, n => ⟨s, by simp [goQ]⟩
  | d :: ds, s, t, h, 0 => ⟨s, rfl⟩
  | d :: ds, s, t, h, n + 1 => by
    have h' : (nxtA p s d).bind (fun u => goQ p u ds) = some t := h
    cases e : nxtA p s d with
    | none => rw [e] at h'; cases h'
    | some u =>
      rw [e] at h'
      obtain ⟨v, hv⟩ := goQ_take h' n
      exact ⟨v, by show (nxtA p s d).bind (fun u => goQ p u (ds.take n)) = some v; rw [e]; exact hv⟩
theorem wit_law {p : Plt} {s : OSt} {lim : Int} : ∀ (rs pre : List (Int × Int)) (now : List (OSt × List Int)), LvOk p s pre now →
    (∀ w, witA p lim (tks p rs now) = some w → WitS p s (pre ++ rs) lim pre.length w) ∧
    (witA p lim (tks p rs now) = none → ∀ k, pre.length ≤ k → k ≤ (pre ++ rs).length → ∀ ds, inC ((pre ++ rs).take k) ds → GdQ p s lim ds) := by
  intro rs
  induction rs with
  | nil =>
    intro pre now h
    unfold tks witA
    rw [List.append_nil]
    cases hf : now.find? (fun a => blwQ p lim a.1) with
    | some a =>
      dsimp only
      refine ⟨fun w hw => ?_, fun hn => by cases hn⟩
      cases hw
      obtain ⟨b1, b2, t, b3⟩ := h.way.bad hf
      have e := b1.1
      exact ⟨by omega, by omega, by rw [e, List.take_length]; exact b1, b2, fun j h1 h2 => by omega, fun n _ => goQ_take b3 n⟩
    | none =>
      dsimp only
      refine ⟨fun w hw => ?_, fun _ k hk1 hk2 ds hds => ?_⟩
      · unfold witA at hw; cases hw
      · obtain rfl : k = pre.length := by omega
        rw [List.take_length] at hds
        exact h.good hf hds
  | cons r rs ih =>
    intro pre now h
    unfold tks witA
    cases hf : now.find? (fun a => blwQ p lim a.1) with
    | some a =>
      dsimp only
      refine ⟨fun w hw => ?_, fun hn => by cases hn⟩
      cases hw
      obtain ⟨b1, b2, t, b3⟩ := h.way.bad hf
      have e := b1.1
      exact ⟨by omega, by rw [List.length_append]; omega, by rw [e, take_pre]; exact b1, b2, fun j h1 h2 => by omega, fun n _ => goQ_take b3 n⟩
    | none =>
      dsimp only
      have hg : ∀ ds, inC ((pre ++ r :: rs).take pre.length) ds → GdQ p s lim ds := fun ds hds => by rw [take_pre] at hds; exact h.good hf hds
      cases he : (tkL p r now).emp with
      | some e =>
        dsimp only
        obtain ⟨s1, s2, es, n, t, s3, s4⟩ := h.stop he
        have hway := (tkL_way (r := r) h.way).1
        have fin : ∀ w, inC (pre ++ [r]) w → ¬ GdQ p s lim w → (∀ n, n < w.length → ∃ t, goQ p s (w.take n) = some t) → WitS p s (pre ++ r :: rs) lim pre.length w := fun w w1 w2 w3 => by
          have el := w1.1
          rw [List.length_append, List.length_singleton] at el
          refine ⟨by omega, by rw [List.length_append, List.length_cons]; omega, by rw [el, take_pre1]; exact w1, w2, fun j h1 h2 ds hds => ?_, w3⟩
          obtain rfl : j = pre.length := by omega
          exact hg ds hds
        have fe : WitS p s (pre ++ r :: rs) lim pre.length e := fin e s1 (fun ⟨t, ht, _⟩ => by rw [s2] at ht; cases ht) (fun m hm => by
          rw [s3] at hm ⊢
          rw [List.length_append, List.length_singleton] at hm
          rw [List.take_append_of_le_length (by omega)]
          exact goQ_take s4 m)
        unfold witA
        cases hf2 : (tkL p r now).aft.find? (fun a => blwQ p lim a.1) with
        | some a =>
          dsimp only
          obtain ⟨b1, b2, t', b3⟩ := hway.bad hf2
          have fa := fin a.2 b1 b2 (fun n _ => goQ_take b3 n)
          refine ⟨fun w hw => ?_, fun hn => ?_⟩
          · split at hw
            · cases hw; exact fa
            · cases hw; exact fe
          · split at hn <;> cases hn
        | none =>
          dsimp only
          exact ⟨fun w hw => (by cases hw; exact fe), fun hn => by cases hn⟩
      | none =>
        dsimp only
        obtain ⟨i1, i2⟩ := ih (pre ++ [r]) (tkL p r now).aft (h.next he)
        rw [show (pre ++ [r]) ++ rs = pre ++ r :: rs by simp, show (pre ++ [r]).length = pre.length + 1 by simp] at i1 i2
        refine ⟨fun w hw => ?_, fun hn k hk1 hk2 ds hds => ?_⟩
        · obtain ⟨a1, a2, a3, a4, a5, a6⟩ := i1 w hw
          refine ⟨by omega, a2, a3, a4, fun j h1 h2 ds hds => ?_, a6⟩
          by_cases hj : j = pre.length
          · subst hj; exact hg ds hds
          · exact a5 j h1 (by omega) ds hds
        · by_cases hk : k = pre.length
          · subst hk; exact hg ds hds
          · exact i2 hn k (by omega) hk2 ds hds
end
section
open Go.RowKit

def EmpB (p : Plt) (r : Int × Int) (l : List OSt) : Bool := l.any fun s => (rngL r).any fun n => (nxtA p s n).isNone
theorem EmpB_iff {p : Plt} {r : Int × Int} {l : List OSt} : EmpB p r l = true ↔ Emp p r l := by
  unfold EmpB Emp
  rw [List.any_eq_true]
  constructor
  · rintro ⟨s, hs, h⟩
    obtain ⟨n, hn, e⟩ := List.any_eq_true.1 h
    exact ⟨s, hs, n, hn, by simpa using e⟩
  · rintro ⟨s, hs, n, hn, e⟩
    exact ⟨s, hs, List.any_eq_true.2 ⟨n, hn, by rw [e]; rfl⟩⟩
theorem emp_same {p : Plt} {r : Int × Int} {now : List (OSt × List Int)} {l : List OSt} (h : ∀ x, x ∈ l ↔ x ∈ sts now) : (tkL p r now).emp = none ↔ EmpB p r l = false := by
  have h2 := (foldR_all (p := p) (r := r) now ⟨[], none⟩).2.1
  unfold tkL
  rw [h2, ← Bool.not_eq_true, EmpB_iff]
  unfold Emp
  constructor
  · rintro ⟨-, hn⟩ ⟨s, hs, y⟩
    exact hn ⟨s, (h s).1 hs, y⟩
  · intro hn
    exact ⟨rfl, fun ⟨s, hs, y⟩ => hn ⟨s, (h s).2 hs, y⟩⟩
theorem aft_same {p : Plt} {r : Int × Int} {now : List (OSt × List Int)} {l : List OSt} (h : ∀ x, x ∈ l ↔ x ∈ sts now) (x : OSt) : x ∈ aftR p r l ↔ x ∈ sts (tkL p r now).aft := by
  rw [mem_aftR]
  have h1 := (foldR_all (p := p) (r := r) now ⟨[], none⟩).1 x
  unfold tkL
  rw [h1]
  unfold Fol
  simp only [sts, List.map_nil, List.not_mem_nil, false_or]
  constructor
  · rintro ⟨s, hs, y⟩; exact ⟨s, (h s).1 hs, y⟩
  · rintro ⟨s, hs, y⟩; exact ⟨s, (h s).2 hs, y⟩
/-- The reference's states of a class. -/
def rchR (p : Plt) : List OSt → List (Int × Int) → Option (List OSt)
  | l, [] => some l
  | l, r :: rs => if EmpB p r l = true then none else rchR p (aftR p r l) rs
/-- The states of the last level; none if something empties the plant. -/
def lstA : List (List (OSt × List Int) × Option (List Int)) → List OSt → Option (List OSt)
  | [], o => some o
  | (now, none) :: l, _ => lstA l (sts now)
  | (_, some _) :: _, _ => none
theorem rch_law {p : Plt} : ∀ (rs : List (Int × Int)) (now : List (OSt × List Int)) (l o : List OSt), SrtS l → (∀ x, x ∈ l ↔ x ∈ sts now) →
    (rchR p l rs = none ↔ lstA (tks p rs now) o = none) ∧ ∀ m, rchR p l rs = some m → SrtS m ∧ ∃ k, lstA (tks p rs now) o = some k ∧ ∀ x, x ∈ m ↔ x ∈ k := by
  intro rs
  induction rs with
  | nil =>
    intro now l o hs hm
    unfold rchR tks lstA lstA
    exact ⟨by simp, fun m h => by cases h; exact ⟨hs, _, rfl, hm⟩⟩
  | cons r rs ih =>
    intro now l o hs hm
    unfold rchR tks lstA
    have he := emp_same (p := p) (r := r) hm
    cases h : (tkL p r now).emp with
    | some e =>
      have : EmpB p r l = true := by
        cases hb : EmpB p r l
        · rw [he.2 hb] at h; cases h
        · rfl
      rw [if_pos this]
      dsimp only
      unfold lstA
      exact ⟨by simp, fun m h => by cases h⟩
    | none =>
      rw [if_neg (by rw [he.1 h]; exact Bool.false_ne_true)]
      dsimp only
      exact ih (tkL p r now).aft (aftR p r l) (sts now) srt_aftR (aft_same hm)
/-- The reference's answer whether a class is permitted. -/
def prmR (p : Plt) (lim : Int) : List OSt → List (Int × Int) → Bool
  | l, [] => !l.any (blwQ p lim)
  | l, r :: rs => !l.any (blwQ p lim) && (!EmpB p r l && prmR p lim (aftR p r l) rs)
theorem any_same {l : List OSt} {now : List (OSt × List Int)} {f : OSt → Bool} (h : ∀ x, x ∈ l ↔ x ∈ sts now) : l.any f = (now.find? (fun a => f a.1)).isSome := by
  cases hf : now.find? (fun a => f a.1) with
  | none =>
    rw [Option.isSome_none, List.any_eq_false]
    intro x hx
    obtain ⟨a, ha, rfl⟩ := List.mem_map.1 ((h x).1 hx)
    exact List.find?_eq_none.1 hf a ha
  | some a =>
    rw [Option.isSome_some, List.any_eq_true]
    exact ⟨a.1, (h a.1).2 (List.mem_map.2 ⟨a, List.mem_of_find?_eq_some hf, rfl⟩), by simpa using List.find?_some hf⟩
theorem prm_law {p : Plt} {lim : Int} : ∀ (rs : List (Int × Int)) (now : List (OSt × List Int)) (l : List OSt), (∀ x, x ∈ l ↔ x ∈ sts now) → prmR p lim l rs = (witA p lim (tks p rs now)).isNone := by
  intro rs
  induction rs with
  | nil =>
    intro now l hm
    unfold prmR tks witA
    rw [any_same hm]
    cases hf : now.find? (fun a => blwQ p lim a.1) with
    | none => dsimp only; unfold witA; rfl
    | some a => rfl
  | cons r rs ih =>
    intro now l hm
    unfold prmR tks witA
    rw [any_same hm]
    cases hf : now.find? (fun a => blwQ p lim a.1) with
    | some a => rfl
    | none =>
      dsimp only
      have he := emp_same (p := p) (r := r) hm
      cases h : (tkL p r now).emp with
      | some e =>
        have hb : EmpB p r l = true := by
          cases hb : EmpB p r l
          · rw [he.2 hb] at h; cases h
          · rfl
        rw [hb]
        dsimp only
        unfold witA
        cases hf2 : (tkL p r now).aft.find? (fun a => blwQ p lim a.1) with
        | some a => dsimp only; split <;> rfl
        | none => rfl
      | none =>
        rw [he.1 h]
        dsimp only
        rw [ih (tkL p r now).aft (aftR p r l) (aft_same hm)]
        rfl
/-- The reference's lowest pressure: tick and volume, from a tick and its sorted states on. -/
def lowR (p : Plt) : Int → (Int × Int) → List OSt → List (Int × Int) → Int × Int
  | _, s, _, [] => s
  | k, s, l, r :: rs => lowR p (k + 1) (if ((aftR p r l).headD (0, false)).1 < s.2 then (k + 1, ((aftR p r l).headD (0, false)).1) else s) (aftR p r l) rs
theorem rngL_ne {r : Int × Int} (h : r.1 ≤ r.2) : ∃ n, n ∈ rngL r := by
  unfold rngL
  exact ⟨r.1 + (0 : Nat), List.mem_map.2 ⟨0, List.mem_range.2 (by omega), rfl⟩⟩
theorem aftR_ne {p : Plt} {r : Int × Int} {l : List OSt} (hr : r.1 ≤ r.2) (hl : l ≠ []) (he : EmpB p r l = false) : aftR p r l ≠ [] := by
  obtain ⟨s, hs⟩ := List.exists_mem_of_ne_nil l hl
  obtain ⟨n, hn⟩ := rngL_ne hr
  cases e : nxtA p s n with
  | none =>
    have := EmpB_iff.2 (show Emp p r l from ⟨s, hs, n, hn, e⟩)
    rw [he] at this; cases this
  | some t =>
    have := mem_aftR.2 (show Fol p r l t from ⟨s, hs, n, hn, e⟩)
    exact List.ne_nil_of_mem this
theorem low_law {p : Plt} : ∀ (rs : List (Int × Int)) (now : List (OSt × List Int)) (l : List OSt) (k : Int) (s : Int × Int), (∀ r ∈ rs, r.1 ≤ r.2) → SrtS l → l ≠ [] → (∀ x, x ∈ l ↔ x ∈ sts now) →
    (rchR p l rs = none → lowF k s (tks p rs now) = none) ∧ (rchR p l rs ≠ none → lowF k s (tks p rs now) = some (lowR p k (lowL k s now) l rs)) := by
  intro rs
  induction rs with
  | nil =>
    intro now l k s _ _ _ _
    unfold rchR tks lowF lowF lowR
    exact ⟨fun h => (by cases h), fun _ => rfl⟩
  | cons r rs ih =>
    intro now l k s hr hs hl hm
    unfold rchR tks lowF
    have he := emp_same (p := p) (r := r) hm
    cases h : (tkL p r now).emp with
    | some e =>
      have hb : EmpB p r l = true := by
        cases hb : EmpB p r l
        · rw [he.2 hb] at h; cases h
        · rfl
      rw [if_pos hb]
      dsimp only
      unfold lowF
      exact ⟨fun _ => rfl, fun h => absurd rfl h⟩
    | none =>
      have hb := he.1 h
      rw [if_neg (by rw [hb]; exact Bool.false_ne_true)]
      dsimp only
      have hne := aftR_ne (hr r (List.mem_cons_self ..)) hl hb
      obtain ⟨i1, i2⟩ := ih (tkL p r now).aft (aftR p r l) (k + 1) (lowL k s now) (fun x hx => hr x (List.mem_cons_of_mem _ hx)) srt_aftR hne (aft_same hm)
      refine ⟨i1, fun h2 => ?_⟩
      rw [i2 h2]
      obtain ⟨x, m, e⟩ := List.exists_cons_of_ne_nil hne
      rw [lowL_eq (aft_same hm) srt_aftR x m e]
      have hst : lowR p k (lowL k s now) l (r :: rs) = lowR p (k + 1) (if ((aftR p r l).headD (0, false)).1 < (lowL k s now).2 then (k + 1, ((aftR p r l).headD (0, false)).1) else lowL k s now) (aftR p r l) rs := rfl
      rw [hst, e]
      rfl
end
end Go.Proofs.YtbpcapcgbnbknaaGreat
