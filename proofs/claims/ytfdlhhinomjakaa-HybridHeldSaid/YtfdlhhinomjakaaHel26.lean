/-
  Texts of this claim, in their build order: W14 Y1 Y2 OP2 OP3 OP8 OP9.
-/
import Derived.Test.YtfdlhhinomjakaaHel25
import Derived.Test.YtfdlhhinomjakaaHel18
import Derived.Test.YtfdlhhinomjakaaHel23

namespace Go.Proofs.Ytfdlhhinomjakaa
section
open Go.RowKit

theorem RW.zero (w : World) : RW w none (.agg #[.int .i64 0, .slice none 0 0]) 0 := by
  have e : dg 0 = [] := by unfold dg; rw [show (0 : Int).natAbs = 0 from rfl, digs_zero]
  exact ⟨0, by rw [e]; rfl, by rw [e]; simp, .inl (by rw [e]; rfl)⟩
end
section
open Go.RowKit

theorem Loc.imp {P Q : Nat → Prop} {a : Option Addr} {z : Int} (h : Loc P a z) (hi : ∀ b, P b → Q b) : Loc Q a z := fun hn p hp => hi _ (h hn p hp)
end
section
open Go.RowKit

/-- A fraction as the program holds it: two numbers. -/
def RR (W : World) (a1 a2 : Option Addr) (v : Value) (q : Int × Int) : Prop :=
  ∃ s1 n1 c1 s2 n2 c2, v = .agg #[.int .i64 s1, .slice a1 n1 c1, .int .i64 s2, .slice a2 n2 c2] ∧ RW W a1 (.agg #[.int .i64 s1, .slice a1 n1 c1]) q.1 ∧ RW W a2 (.agg #[.int .i64 s2, .slice a2 n2 c2]) q.2
theorem RR.to {W W' : World} {a1 a2 : Option Addr} {v : Value} {q : Int × Int} (h : RR W a1 a2 v q) (hb : Below W.heap.size W W') : RR W' a1 a2 v q := by
  obtain ⟨s1, n1, c1, s2, n2, c2, e, h1, h2⟩ := h
  exact ⟨s1, n1, c1, s2, n2, c2, e, h1.to hb, h2.to hb⟩
end
section
open Go.RowKit

/-- Is a quotient less than another one? -/
def lessQ (a b : Int × Int) : Bool := decide (a.1 * b.2 < b.1 * a.2)
/-- A plant: its points, what its pump gives, when it starts and stops. -/
structure Plt where
  pts : List (Int × Int)
  pump : Int
  on : Int
  off : Int
/-- The volume after a demand. -/
def vlmA (p : Plt) (s : Int × Bool) (d : Int) : Int := min ((if s.2 then s.1 + p.pump else s.1) - d) (capV p.pts)
/-- Whether the pump runs at a volume. -/
def pmpA (p : Plt) (r : Bool) (v : Int) : Bool := if lessQ (p.on, 1) (prQ p.pts v) = false then true else if lessQ (prQ p.pts v) (p.off, 1) = false then false else r
/-- The next state, of the program. -/
def nxtA (p : Plt) (s : Int × Bool) (d : Int) : Option (Int × Bool) := if vlmA p s d < 0 then none else some (vlmA p s d, pmpA p s.2 (vlmA p s d))
end
section
open Go.RowKit

abbrev OSt := Int × Bool
/-- A level: the states in the order in which they are found, each with the demands that led to it; what emptied the plant first. -/
structure Tks where
  aft : List (OSt × List Int)
  emp : Option (List Int)
def tkD (p : Plt) (a : OSt × List Int) (s : Tks) (n : Int) : Tks :=
  match nxtA p a.1 n with
  | none => ⟨s.aft, match s.emp with | none => some (a.2 ++ [n]) | some e => some e⟩
  | some t => if s.aft.any (fun x => x.1 == t) then s else ⟨s.aft ++ [(t, a.2 ++ [n])], s.emp⟩
/-- The demands of a range. -/
def rngL (r : Int × Int) : List Int := (List.range (r.2 - r.1 + 1).toNat).map fun (i : Nat) => r.1 + (i : Int)
def tkR (p : Plt) (r : Int × Int) (s : Tks) (a : OSt × List Int) : Tks := (rngL r).foldl (tkD p a) s
def tkL (p : Plt) (r : Int × Int) (now : List (OSt × List Int)) : Tks := now.foldl (tkR p r) ⟨[], none⟩
def sts (l : List (OSt × List Int)) : List OSt := l.map (·.1)
/-- Is it so that a state follows by a demand of the range? -/
def Fol (p : Plt) (r : Int × Int) (l : List OSt) (t : OSt) : Prop := ∃ s ∈ l, ∃ n ∈ rngL r, nxtA p s n = some t
def Emp (p : Plt) (r : Int × Int) (l : List OSt) : Prop := ∃ s ∈ l, ∃ n ∈ rngL r, nxtA p s n = none
theorem tkD_mem {p : Plt} {a : OSt × List Int} {s : Tks} {n : Int} {t : OSt} : t ∈ sts (tkD p a s n).aft ↔ t ∈ sts s.aft ∨ nxtA p a.1 n = some t := by
  unfold tkD
  cases h : nxtA p a.1 n with
  | none => simp
  | some u =>
    dsimp only
    split
    · rename_i h2
      constructor
      · exact .inl
      · rintro (h3 | h3)
        · exact h3
        · cases h3
          obtain ⟨x, hx, e⟩ := List.any_eq_true.1 h2
          have : x.1 = t := by simpa using e
          exact List.mem_map.2 ⟨x, hx, this⟩
    · unfold sts
      rw [List.map_append, List.mem_append]
      simp [eq_comm]
theorem tkD_emp {p : Plt} {a : OSt × List Int} {s : Tks} {n : Int} : (tkD p a s n).emp = none ↔ s.emp = none ∧ nxtA p a.1 n ≠ none := by
  unfold tkD
  cases h : nxtA p a.1 n with
  | none => cases s.emp <;> simp
  | some u =>
    dsimp only
    split <;> simp
theorem tkD_nodup {p : Plt} {a : OSt × List Int} {s : Tks} {n : Int} (h : (sts s.aft).Nodup) : (sts (tkD p a s n).aft).Nodup := by
  unfold tkD
  cases hn : nxtA p a.1 n with
  | none => exact h
  | some u =>
    dsimp only
    split
    · exact h
    · rename_i h2
      unfold sts at *
      rw [List.map_append, List.nodup_append]
      refine ⟨h, by simp, fun x hx y hy => ?_⟩
      simp only [List.map_cons, List.map_nil, List.mem_singleton] at hy
      subst hy
      rintro rfl
      obtain ⟨z, hz, e⟩ := List.mem_map.1 hx
      exact h2 (List.any_eq_true.2 ⟨z, hz, by rw [e]; simp⟩)
theorem foldD_all {p : Plt} {a : OSt × List Int} : ∀ (l : List Int) (s : Tks),
    (∀ t, t ∈ sts (l.foldl (tkD p a) s).aft ↔ t ∈ sts s.aft ∨ ∃ n ∈ l, nxtA p a.1 n = some t) ∧ ((l.foldl (tkD p a) s).emp = none ↔ s.emp = none ∧ ∀ n ∈ l, nxtA p a.1 n ≠ none) ∧ ((sts s.aft).Nodup → (sts (l.foldl (tkD p a) s).aft).Nodup)
  | [], s => by simp
  | n :: l, s => by
    obtain ⟨h1, h2, h3⟩ := foldD_all l (tkD p a s n)
    rw [List.foldl_cons]
    refine ⟨fun t => ?_, ?_, fun h => h3 (tkD_nodup h)⟩
    · rw [h1, tkD_mem]; simp [or_assoc]
    · rw [h2, tkD_emp]; simp [and_assoc]
theorem foldR_all {p : Plt} {r : Int × Int} : ∀ (now : List (OSt × List Int)) (s : Tks),
    (∀ t, t ∈ sts (now.foldl (tkR p r) s).aft ↔ t ∈ sts s.aft ∨ Fol p r (sts now) t) ∧ ((now.foldl (tkR p r) s).emp = none ↔ s.emp = none ∧ ¬ Emp p r (sts now)) ∧ ((sts s.aft).Nodup → (sts (now.foldl (tkR p r) s).aft).Nodup)
  | [], s => by simp [Fol, Emp, sts]
  | a :: now, s => by
    obtain ⟨h1, h2, h3⟩ := foldR_all now (tkR p r s a)
    obtain ⟨g1, g2, g3⟩ := foldD_all (p := p) (a := a) (rngL r) s
    rw [List.foldl_cons]
    refine ⟨fun t => ?_, ?_, fun h => h3 (g3 h)⟩
    · rw [h1]; unfold tkR; rw [g1]
      unfold Fol sts
      simp only [List.map_cons, List.mem_cons, exists_eq_or_imp, or_assoc]
    · rw [h2]; unfold tkR; rw [g2]
      unfold Emp sts
      simp only [List.map_cons, List.mem_cons, exists_eq_or_imp, not_or, and_assoc]
      constructor
      · rintro ⟨a1, a2, a3⟩
        exact ⟨a1, fun ⟨n, hn, e⟩ => a2 n hn e, a3⟩
      · rintro ⟨a1, a2, a3⟩
        exact ⟨a1, fun n hn e => a2 ⟨n, hn, e⟩, a3⟩
end
section
open Go.RowKit

/-- Where demands lead to; none if one empties the plant. -/
def goQ (p : Plt) : OSt → List Int → Option OSt
  | s, [] => some s
  | s, d :: ds => (nxtA p s d).bind fun t => goQ p t ds
theorem goQ_app (p : Plt) : ∀ (ds es : List Int) (s : OSt), goQ p s (ds ++ es) = (goQ p s ds).bind fun t => goQ p t es
  | [], es, s => rfl
  | d :: ds, es, s => by
    show (nxtA p s d).bind (fun t => goQ p t (ds ++ es)) = ((nxtA p s d).bind fun t => goQ p t ds).bind _
    cases nxtA p s d with
    | none => rfl
    | some t => exact goQ_app p ds es t
theorem goQ_snoc (p : Plt) (ds : List Int) (n : Int) (s : OSt) : goQ p s (ds ++ [n]) = (goQ p s ds).bind fun t => nxtA p t n := by
  rw [goQ_app]
  congr 1
  funext t
  show (nxtA p t n).bind (fun t => some t) = _
  cases nxtA p t n <;> rfl
/-- Demands of a class. -/
def inC (c : List (Int × Int)) (ds : List Int) : Prop := ds.length = c.length ∧ ∀ i, i < c.length → gi ds i ∈ rngL (fg c i)
theorem inC_nil {ds : List Int} : inC [] ds ↔ ds = [] := by
  unfold inC
  constructor
  · intro h; exact List.length_eq_zero_iff.1 h.1
  · rintro rfl; exact ⟨rfl, fun i hi => by simp at hi⟩
theorem gi_app1 {l m : List Int} {i : Nat} (h : i < l.length) : gi (l ++ m) i = gi l i := by
  unfold gi
  rw [List.getD_eq_getElem?_getD, List.getD_eq_getElem?_getD, List.getElem?_append_left h]
theorem gi_app2 {l : List Int} (x : Int) : gi (l ++ [x]) l.length = x := by
  unfold gi
  rw [List.getD_eq_getElem?_getD, List.getElem?_append_right (Nat.le_refl _), Nat.sub_self]; rfl
theorem fg_snoc1 {l : List (Int × Int)} {r : Int × Int} {i : Nat} (h : i < l.length) : fg (l ++ [r]) i = fg l i := by
  unfold fg
  rw [List.getD_eq_getElem?_getD, List.getD_eq_getElem?_getD, List.getElem?_append_left h]
theorem fg_snoc2 (l : List (Int × Int)) (r : Int × Int) : fg (l ++ [r]) l.length = r := by
  unfold fg
  rw [List.getD_eq_getElem?_getD, List.getElem?_append_right (Nat.le_refl _), Nat.sub_self]; rfl
theorem inC_snoc {c : List (Int × Int)} {r : Int × Int} {ds : List Int} : inC (c ++ [r]) ds ↔ ∃ es n, ds = es ++ [n] ∧ inC c es ∧ n ∈ rngL r := by
  unfold inC
  rw [List.length_append, List.length_singleton]
  constructor
  · rintro ⟨hl, h⟩
    have hne : ds ≠ [] := fun e => by rw [e] at hl; simp at hl
    obtain ⟨es, n, e⟩ : ∃ es n, ds = es ++ [n] := ⟨ds.dropLast, ds.getLast hne, (List.dropLast_concat_getLast hne).symm⟩
    subst e
    rw [List.length_append, List.length_singleton] at hl
    have hl' : es.length = c.length := by omega
    refine ⟨es, n, rfl, ⟨hl', fun i hi => ?_⟩, ?_⟩
    · have := h i (by omega)
      rwa [gi_app1 (by omega), fg_snoc1 hi] at this
    · have := h c.length (by omega)
      rwa [fg_snoc2, ← hl', gi_app2] at this
  · rintro ⟨es, n, rfl, ⟨hl, h⟩, hn⟩
    rw [List.length_append, List.length_singleton]
    refine ⟨by omega, fun i hi => ?_⟩
    by_cases hic : i < c.length
    · rw [gi_app1 (by omega), fg_snoc1 hic]; exact h i hic
    · obtain rfl : i = c.length := by omega
      rw [fg_snoc2, ← hl, gi_app2]; exact hn
/-- Each state is reached by its demands. -/
def LvA (p : Plt) (s : OSt) (c : List (Int × Int)) (now : List (OSt × List Int)) : Prop := ∀ a ∈ now, inC c a.2 ∧ goQ p s a.2 = some a.1
/-- A whole level. -/
structure LvOk (p : Plt) (s : OSt) (c : List (Int × Int)) (now : List (OSt × List Int)) : Prop where
  way : LvA p s c now
  all : ∀ ds, inC c ds → ∃ t, goQ p s ds = some t ∧ t ∈ sts now
  nd : (sts now).Nodup
theorem LvOk.start (p : Plt) (s : OSt) : LvOk p s [] [(s, [])] :=
  ⟨fun a ha => by
    have : a = (s, []) := by simpa using ha
    subst this; exact ⟨inC_nil.2 rfl, rfl⟩, fun ds h => by rw [inC_nil.1 h]; exact ⟨s, rfl, by simp [sts]⟩, by simp [sts]⟩
/-- What holds while the next level is found. -/
def StpA (p : Plt) (s : OSt) (c : List (Int × Int)) (k : Tks) : Prop := LvA p s c k.aft ∧ ∀ e, k.emp = some e → inC c e ∧ goQ p s e = none ∧ ∃ es n t, e = es ++ [n] ∧ goQ p s es = some t
theorem tkD_way {p : Plt} {s : OSt} {c : List (Int × Int)} {r : Int × Int} {a : OSt × List Int} {k : Tks} {n : Int} (ha : inC c a.2 ∧ goQ p s a.2 = some a.1) (hn : n ∈ rngL r) (h : StpA p s (c ++ [r]) k) : StpA p s (c ++ [r]) (tkD p a k n) := by
  obtain ⟨h1, h2⟩ := h
  have hin : inC (c ++ [r]) (a.2 ++ [n]) := inC_snoc.2 ⟨a.2, n, rfl, ha.1, hn⟩
  have hgo : goQ p s (a.2 ++ [n]) = nxtA p a.1 n := by rw [goQ_snoc, ha.2]; rfl
  unfold tkD
  cases e : nxtA p a.1 n with
  | none =>
    refine ⟨h1, fun x hx => ?_⟩
    dsimp only at hx
    cases hk : k.emp with
    | none =>
      rw [hk] at hx
      cases hx
      exact ⟨hin, by rw [hgo, e], a.2, n, a.1, rfl, ha.2⟩
    | some y =>
      rw [hk] at hx
      cases hx
      exact h2 _ hk
  | some t =>
    dsimp only
    split
    · exact ⟨h1, h2⟩
    · refine ⟨fun b hb => ?_, h2⟩
      rcases List.mem_append.1 hb with hb | hb
      · exact h1 b hb
      · have : b = (t, a.2 ++ [n]) := by simpa using hb
        subst this
        exact ⟨hin, by rw [hgo, e]⟩
theorem foldD_way {p : Plt} {s : OSt} {c : List (Int × Int)} {r : Int × Int} {a : OSt × List Int} (ha : inC c a.2 ∧ goQ p s a.2 = some a.1) : ∀ (l : List Int) (k : Tks), (∀ n ∈ l, n ∈ rngL r) → StpA p s (c ++ [r]) k → StpA p s (c ++ [r]) (l.foldl (tkD p a) k)
  | [], _, _, h => h
  | n :: l, _, hl, h => foldD_way ha l _ (fun m hm => hl m (List.mem_cons_of_mem _ hm)) (tkD_way ha (hl n (List.mem_cons_self ..)) h)
theorem foldR_way {p : Plt} {s : OSt} {c : List (Int × Int)} {r : Int × Int} : ∀ (now : List (OSt × List Int)) (k : Tks), LvA p s c now → StpA p s (c ++ [r]) k → StpA p s (c ++ [r]) (now.foldl (tkR p r) k)
  | [], _, _, h => h
  | a :: now, _, hl, h => foldR_way now _ (fun b hb => hl b (List.mem_cons_of_mem _ hb)) (foldD_way (hl a (List.mem_cons_self ..)) (rngL r) _ (fun _ h => h) h)
theorem tkL_way {p : Plt} {s : OSt} {c : List (Int × Int)} {r : Int × Int} {now : List (OSt × List Int)} (h : LvA p s c now) : StpA p s (c ++ [r]) (tkL p r now) :=
  foldR_way now _ h ⟨fun _ ha => (by cases ha), fun _ he => (by cases he)⟩
/-- The next level, if nothing empties the plant. -/
theorem LvOk.next {p : Plt} {s : OSt} {c : List (Int × Int)} {r : Int × Int} {now : List (OSt × List Int)} (h : LvOk p s c now) (he : (tkL p r now).emp = none) : LvOk p s (c ++ [r]) (tkL p r now).aft := by
  obtain ⟨h1, h2, h3⟩ := foldR_all (p := p) (r := r) now ⟨[], none⟩
  refine ⟨(tkL_way h.way).1, fun ds hds => ?_, h3 (by simp [sts])⟩
  obtain ⟨es, n, rfl, he1, hn⟩ := inC_snoc.1 hds
  obtain ⟨t, ht, htn⟩ := h.all es he1
  have hno : ¬ Emp p r (sts now) := (h2.1 he).2
  cases e : nxtA p t n with
  | none => exact absurd ⟨t, htn, n, hn, e⟩ hno
  | some u =>
    refine ⟨u, by rw [goQ_snoc, ht]; exact e, ?_⟩
    exact (h1 u).2 (.inr ⟨t, htn, n, hn, e⟩)
/-- If something empties the plant: demands of the class that do. -/
theorem LvOk.stop {p : Plt} {s : OSt} {c : List (Int × Int)} {r : Int × Int} {now : List (OSt × List Int)} (h : LvOk p s c now) {e : List Int} (he : (tkL p r now).emp = some e) : inC (c ++ [r]) e ∧ goQ p s e = none ∧ ∃ es n t, e = es ++ [n] ∧ goQ p s es = some t :=
  (tkL_way h.way).2 e he
end
section
open Go.RowKit

/-- Is the pressure of a state below a limit? -/
def blwQ (p : Plt) (lim : Int) (t : OSt) : Bool := lessQ (prQ p.pts t.1) (lim, 1)
/-- Demands that empty nothing, and lead to a pressure that is not below. -/
def GdQ (p : Plt) (s : OSt) (lim : Int) (ds : List Int) : Prop := ∃ t, goQ p s ds = some t ∧ blwQ p lim t = false
/-- slices.Compare. -/
def cmpL : List Int → List Int → Int
  | [], [] => 0
  | [], _ :: _ => -1
  | _ :: _, [] => 1
  | a :: l, b :: m => if a < b then -1 else if b < a then 1 else cmpL l m
end
end Go.Proofs.Ytfdlhhinomjakaa
