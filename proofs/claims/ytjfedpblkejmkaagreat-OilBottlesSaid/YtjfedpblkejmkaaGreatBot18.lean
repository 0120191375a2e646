/-
  Texts of this claim, in their build order: OP3 OA2 OA3.
-/
import Derived.Test.YtjfedpblkejmkaaGreatBot17
import Derived.Test.YtjfedpblkejmkaaGreatBot4
import Derived.Outline
import Derived.Test.YtjfedpblkejmkaaGreatBot0

namespace Go.Proofs.YtjfedpblkejmkaaGreat
section
open Go.RowKit

abbrev OSt := Int × Bool
def ltS (a b : OSt) : Bool := decide (a.1 < b.1) || (a.1 == b.1 && !a.2 && b.2)
theorem ltS_irr (a : OSt) : ltS a a = false := by unfold ltS; cases a.2 <;> simp
theorem ltS_trans {a b c : OSt} (h1 : ltS a b = true) (h2 : ltS b c = true) : ltS a c = true := by
  unfold ltS at *
  simp only [Bool.or_eq_true, Bool.and_eq_true, decide_eq_true_eq, beq_iff_eq, Bool.not_eq_true'] at *
  rcases h1 with h1 | ⟨⟨e1, f1⟩, g1⟩ <;> rcases h2 with h2 | ⟨⟨e2, f2⟩, g2⟩
  · exact .inl (by omega)
  · exact .inl (by omega)
  · exact .inl (by omega)
  · rw [g1] at f2; cases f2
theorem ltS_tri (a b : OSt) : ltS a b = true ∨ a = b ∨ ltS b a = true := by
  obtain ⟨x, r⟩ := a
  obtain ⟨y, t⟩ := b
  unfold ltS
  rcases Int.lt_trichotomy x y with h | h | h
  · exact .inl (by simp [h])
  · subst h
    cases r <;> cases t <;> simp
  · exact .inr (.inr (by simp [h]))
theorem ltS_asym {a b : OSt} (h : ltS a b = true) : ltS b a = false := by
  cases h2 : ltS b a
  · rfl
  · have := ltS_trans h h2
    rw [ltS_irr] at this; cases this
/-- A sorted set of states. -/
def SrtS (l : List OSt) : Prop := l.Pairwise (fun a b => ltS a b = true)
def putS : List OSt → OSt → List OSt
  | [], s => [s]
  | x :: l, s => if x = s then x :: l else if ltS s x then s :: x :: l else x :: putS l s
theorem mem_putS {x s : OSt} : ∀ {l : List OSt}, x ∈ putS l s ↔ x = s ∨ x ∈ l
  | [] => by simp [putS]
  | y :: l => by
    unfold putS
    by_cases h : y = s
    · rw [if_pos h]; subst h; simp
    · rw [if_neg h]
      by_cases h2 : ltS s y = true
      · rw [if_pos h2]; simp
      · rw [if_neg h2, List.mem_cons, mem_putS, List.mem_cons]
        constructor
        · rintro (a | a | a)
          · exact .inr (.inl a)
          · exact .inl a
          · exact .inr (.inr a)
        · rintro (a | a | a)
          · exact .inr (.inl a)
          · exact .inl a
          · exact .inr (.inr a)
theorem srt_putS {s : OSt} : ∀ {l : List OSt}, SrtS l → SrtS (putS l s)
  | [], _ => by unfold putS SrtS; simp
  | y :: l, h => by
    unfold putS
    have h' := List.pairwise_cons.1 h
    by_cases e : y = s
    · rw [if_pos e]; exact h
    · rw [if_neg e]
      by_cases h2 : ltS s y = true
      · rw [if_pos h2]
        exact List.pairwise_cons.2 ⟨fun z hz => by
          rcases List.mem_cons.1 hz with rfl | hz
          · exact h2
          · exact ltS_trans h2 (h'.1 z hz), h⟩
      · rw [if_neg h2]
        refine List.pairwise_cons.2 ⟨fun z hz => ?_, srt_putS h'.2⟩
        rcases mem_putS.1 hz with rfl | hz
        · rcases ltS_tri y z with a | a | a
          · exact a
          · exact absurd a e
          · exact absurd a h2
        · exact h'.1 z hz
theorem srt_ext : ∀ {l m : List OSt}, SrtS l → SrtS m → (∀ x, x ∈ l ↔ x ∈ m) → l = m
  | [], [], _, _, _ => rfl
  | [], y :: m, _, _, h => by have := (h y).2 (List.mem_cons_self ..); cases this
  | x :: l, [], _, _, h => by have := (h x).1 (List.mem_cons_self ..); cases this
  | x :: l, y :: m, h1, h2, h => by
    have a := List.pairwise_cons.1 h1
    have b := List.pairwise_cons.1 h2
    have e : x = y := by
      rcases List.mem_cons.1 ((h x).1 (List.mem_cons_self ..)) with e | hx
      · exact e
      · rcases List.mem_cons.1 ((h y).2 (List.mem_cons_self ..)) with e | hy
        · exact e.symm
        · have := ltS_asym (b.1 x hx)
          rw [a.1 y hy] at this; cases this
    subst e
    congr 1
    refine srt_ext a.2 b.2 fun z => ?_
    have hz := h z
    rw [List.mem_cons, List.mem_cons] at hz
    constructor
    · intro hm
      rcases hz.1 (.inr hm) with e | e
      · subst e; have := a.1 z hm; rw [ltS_irr] at this; cases this
      · exact e
    · intro hm
      rcases hz.2 (.inr hm) with e | e
      · subst e; have := b.1 z hm; rw [ltS_irr] at this; cases this
      · exact e

/-- A level: the states in the order in which they are found, each with the demands that led to it; what emptied the plant first. -/
structure Tks where
  aft : List (OSt × List Int)
  emp : Option (List Int)
def tkD (p : Plt) (a : OSt × List Int) (s : Tks) (n : Int) : Tks :=
  match nxtA p a.1 n with
  | none => ⟨s.aft, match s.emp with | none => some (a.2 ++ [n]) | some e => some e⟩
  | some t => if s.aft.any (fun x => x.1 == t) then s else ⟨s.aft ++ [(t, a.2 ++ [n])], s.emp⟩
/-- The demands of a range. -/
def rngL (r : Int × Int) : List Int := (List.range (r.2 - r.1 + 1).toNat).map fun (i : Nat) => r.1 + (i : Int)
def tkR (p : Plt) (r : Int × Int) (s : Tks) (a : OSt × List Int) : Tks := (rngL r).foldl (tkD p a) s
def tkL (p : Plt) (r : Int × Int) (now : List (OSt × List Int)) : Tks := now.foldl (tkR p r) ⟨[], none⟩
/-- What the iterator yields. -/
def tks (p : Plt) : List (Int × Int) → List (OSt × List Int) → List (List (OSt × List Int) × Option (List Int))
  | [], now => [(now, none)]
  | r :: rs, now => (now, none) :: (match (tkL p r now).emp with
    | some e => [((tkL p r now).aft, some e)]
    | none => tks p rs (tkL p r now).aft)
def sts (l : List (OSt × List Int)) : List OSt := l.map (·.1)
/-- Is it so that a state follows by a demand of the range? -/
def Fol (p : Plt) (r : Int × Int) (l : List OSt) (t : OSt) : Prop := ∃ s ∈ l, ∃ n ∈ rngL r, nxtA p s n = some t
def Emp (p : Plt) (r : Int × Int) (l : List OSt) : Prop := ∃ s ∈ l, ∃ n ∈ rngL r, nxtA p s n = none
theorem tkD_mem {p : Plt} {a : OSt × List Int} {s : Tks} {n : Int} {t : OSt} : t ∈ sts (tkD p a s n).aft ↔ t ∈ sts s.aft ∨ nxtA p a.1 n = some t := by
  unfold tkD
  cases h : nxtA p a.1 n with
  | none => simp
  | some u =>
    dsimp only
    split
    · rename_i h2
      constructor
      · exact .inl
      · rintro (h3 | h3)
        · exact h3
        · cases h3
          obtain ⟨x, hx, e⟩ := List.any_eq_true.1 h2
          have : x.1 = t := by simpa using e
          exact List.mem_map.2 ⟨x, hx, this⟩
    · unfold sts
      rw [List.map_append, List.mem_append]
      simp [eq_comm]
theorem tkD_emp {p : Plt} {a : OSt × List Int} {s : Tks} {n : Int} : (tkD p a s n).emp = none ↔ s.emp = none ∧ nxtA p a.1 n ≠ none := by
  unfold tkD
  cases h : nxtA p a.1 n with
  | none => cases s.emp <;> simp
  | some u =>
    dsimp only
    split <;> simp
theorem tkD_nodup {p : Plt} {a : OSt × List Int} {s : Tks} {n : Int} (h : (sts s.aft).Nodup) : (sts (tkD p a s n).aft).Nodup := by
  unfold tkD
  cases hn : nxtA p a.1 n with
  | none => exact h
  | some u =>
    dsimp only
    split
    · exact h
    · rename_i h2
      unfold sts at *
      rw [List.map_append, List.nodup_append]
      refine ⟨h, by simp, fun x hx y hy => ?_⟩
      simp only [List.map_cons, List.map_nil, List.mem_singleton] at hy
      subst hy
      rintro rfl
      obtain ⟨z, hz, e⟩ := List.mem_map.1 hx
      exact h2 (List.any_eq_true.2 ⟨z, hz, by rw [e]; simp⟩)
theorem foldD_all {p : Plt} {a : OSt × List Int} : ∀ (l : List Int) (s : Tks),
    (∀ t, t ∈ sts (l.foldl (tkD p a) s).aft ↔ t ∈ sts s.aft ∨ ∃ n ∈ l, nxtA p a.1 n = some t) ∧ ((l.foldl (tkD p a) s).emp = none ↔ s.emp = none ∧ ∀ n ∈ l, nxtA p a.1 n ≠ none) ∧ ((sts s.aft).Nodup → (sts (l.foldl (tkD p a) s).aft).Nodup)
  | [], s => by simp
  | n :: l, s => by
    obtain ⟨h1, h2, h3⟩ := foldD_all l (tkD p a s n)
    rw [List.foldl_cons]
    refine ⟨fun t => ?_, ?_, fun h => h3 (tkD_nodup h)⟩
    · rw [h1, tkD_mem]; simp [or_assoc]
    · rw [h2, tkD_emp]; simp [and_assoc]
theorem foldR_all {p : Plt} {r : Int × Int} : ∀ (now : List (OSt × List Int)) (s : Tks),
    (∀ t, t ∈ sts (now.foldl (tkR p r) s).aft ↔ t ∈ sts s.aft ∨ Fol p r (sts now) t) ∧ ((now.foldl (tkR p r) s).emp = none ↔ s.emp = none ∧ ¬ Emp p r (sts now)) ∧ ((sts s.aft).Nodup → (sts (now.foldl (tkR p r) s).aft).Nodup)
  | [], s => by simp [Fol, Emp, sts]
  | a :: now, s => by
    obtain ⟨h1, h2, h3⟩ := foldR_all now (tkR p r s a)
    obtain ⟨g1, g2, g3⟩ := foldD_all (p := p) (a := a) (rngL r) s
    rw [List.foldl_cons]
    refine ⟨fun t => ?_, ?_, fun h => h3 (g3 h)⟩
    · rw [h1]; unfold tkR; rw [g1]
      unfold Fol sts
      simp only [List.map_cons, List.mem_cons, exists_eq_or_imp, or_assoc]
    · rw [h2]; unfold tkR; rw [g2]
      unfold Emp sts
      simp only [List.map_cons, List.mem_cons, exists_eq_or_imp, not_or, and_assoc]
      constructor
      · rintro ⟨a1, a2, a3⟩
        exact ⟨a1, fun ⟨n, hn, e⟩ => a2 n hn e, a3⟩
      · rintro ⟨a1, a2, a3⟩
        exact ⟨a1, fun n hn e => a2 ⟨n, hn, e⟩, a3⟩

/-- The reference's states after a range. -/
def aftR (p : Plt) (r : Int × Int) (l : List OSt) : List OSt := l.foldl (fun o s => (rngL r).foldl (fun o n => match nxtA p s n with | none => o | some t => putS o t) o) []
theorem aftR_in {p : Plt} {s : OSt} : ∀ (l : List Int) (o : List OSt), (∀ t, t ∈ l.foldl (fun o n => match nxtA p s n with | none => o | some t => putS o t) o ↔ t ∈ o ∨ ∃ n ∈ l, nxtA p s n = some t) ∧ (SrtS o → SrtS (l.foldl (fun o n => match nxtA p s n with | none => o | some t => putS o t) o))
  | [], o => by simp
  | n :: l, o => by
    rw [List.foldl_cons]
    cases h : nxtA p s n with
    | none =>
      obtain ⟨h1, h2⟩ := aftR_in (p := p) (s := s) l o
      exact ⟨fun t => by rw [h1]; simp [h], h2⟩
    | some u =>
      obtain ⟨h1, h2⟩ := aftR_in (p := p) (s := s) l (putS o u)
      refine ⟨fun t => ?_, fun ho => h2 (srt_putS ho)⟩
      rw [h1, mem_putS]
      simp only [List.mem_cons, exists_eq_or_imp, h, Option.some.injEq, ← or_assoc]
      constructor
      · rintro ((rfl | a) | a)
        · exact .inl (.inr rfl)
        · exact .inl (.inl a)
        · exact .inr a
      · rintro ((a | rfl) | a)
        · exact .inl (.inr a)
        · exact .inl (.inl rfl)
        · exact .inr a
theorem aftR_all {p : Plt} {r : Int × Int} : ∀ (l o : List OSt), (∀ t, t ∈ l.foldl (fun o s => (rngL r).foldl (fun o n => match nxtA p s n with | none => o | some t => putS o t) o) o ↔ t ∈ o ∨ Fol p r l t) ∧ (SrtS o → SrtS (l.foldl (fun o s => (rngL r).foldl (fun o n => match nxtA p s n with | none => o | some t => putS o t) o) o))
  | [], o => by simp [Fol]
  | s :: l, o => by
    rw [List.foldl_cons]
    obtain ⟨g1, g2⟩ := aftR_in (p := p) (s := s) (rngL r) o
    obtain ⟨h1, h2⟩ := aftR_all (p := p) (r := r) l ((rngL r).foldl (fun o n => match nxtA p s n with | none => o | some t => putS o t) o)
    refine ⟨fun t => ?_, fun ho => h2 (g2 ho)⟩
    rw [h1, g1]
    unfold Fol
    simp only [List.mem_cons, exists_eq_or_imp, or_assoc]
theorem mem_aftR {p : Plt} {r : Int × Int} {l : List OSt} {t : OSt} : t ∈ aftR p r l ↔ Fol p r l t := by
  have := (aftR_all (p := p) (r := r) l []).1 t
  unfold aftR
  rw [this]; simp
theorem srt_aftR {p : Plt} {r : Int × Int} {l : List OSt} : SrtS (aftR p r l) := (aftR_all (p := p) (r := r) l []).2 List.Pairwise.nil
end
section
set_option maxRecDepth 100000
set_option maxHeartbeats 800000
open Go.RowKit

def sg (l : List OSt) (i : Nat) : OSt := l.getD i (0, false)
def osts (l : List OSt) (j : Nat) : Value := if j % 2 = 0 then .int .i64 (sg l (j / 2)).1 else .bool (sg l (j / 2)).2
theorem osts0 (l : List OSt) (i : Nat) : osts l (i * 2) = .int .i64 (sg l i).1 := by unfold osts; rw [if_pos (by omega), show i * 2 / 2 = i by omega]
theorem osts1 (l : List OSt) (i : Nat) : osts l (i * 2 + 1) = .bool (sg l i).2 := by unfold osts; rw [if_neg (by omega), show (i * 2 + 1) / 2 = i by omega]
def vg (l : List (Int × Int × Int)) (i : Nat) : Int × Int × Int := l.getD i (0, 0, 0)
def flws (l : List (Int × Int × Int)) (j : Nat) : Value := .int .i64 (if j % 3 = 0 then (vg l (j / 3)).1 else if j % 3 = 1 then (vg l (j / 3)).2.1 else (vg l (j / 3)).2.2)
theorem flws0 (l : List (Int × Int × Int)) (i : Nat) : flws l (i * 3) = .int .i64 (vg l i).1 := by unfold flws; rw [if_pos (by omega), show i * 3 / 3 = i by omega]
theorem flws1 (l : List (Int × Int × Int)) (i : Nat) : flws l (i * 3 + 1) = .int .i64 (vg l i).2.1 := by unfold flws; rw [if_neg (by omega), if_pos (by omega), show (i * 3 + 1) / 3 = i by omega]
theorem flws2 (l : List (Int × Int × Int)) (i : Nat) : flws l (i * 3 + 1 + 1) = .int .i64 (vg l i).2.2 := by unfold flws; rw [if_neg (by omega), if_neg (by omega), show (i * 3 + 1 + 1) / 3 = i by omega]

theorem eachPt_any (l : List (Int × Int)) (a : Option Addr) (cap fid : Nat) (bx : Array Value) (w : World) (err : Nat → Int) (I : Nat → World → Prop) (hlen : l.length ≤ 100000)
    (hcf : ∀ args w, Sem.run Tryz.prog (callFunc fid args) w = .ok (.enter fid args) w)
    (h0 : I 0 w) (hrd : ∀ k w', k < l.length → I k w' → Reads w' a (l.length * 2) (fracs l)) (hal : ∀ k w' o, I k w' → I k (w'.alloc o))
    (hst : ∀ k w', k < l.length → I k w' → Calls Tryz.prog fid (#[.int .i64 k, .agg #[.int .i64 (fg l k).1, .int .i64 (fg l k).2]] ++ bx) w' fun e w'' => e = .returned (.int .i64 (err k)) ∧ I (k + 1) w'') :
    Calls Tryz.prog 132 #[.slice a l.length cap, .func (.func fid) #[] bx] w
      fun e w' => e = .returned (.tuple #[.int .i64 (eachR err 0 l.length).1, .int .i64 (eachR err 0 l.length).2]) ∧ ∃ k, k ≤ l.length ∧ I k w' ∧ ((eachR err 0 l.length).2 = 0 → k = l.length) := by
  have HRD := zH hrd
  have HST := zH hst
  have HAL := zH hal
  have H0 := zH h0
  clear hrd hst h0 hal
  go_enter Tryz.func132, Tryz.ntmps132
  go_wp2_with fail
  go_loopw [6, 7, 8, 11] (fun _ _ _ i wr => ∃ k : Nat, k ≤ l.length ∧ i = .int .i64 k ∧ Hid (eachR err 0 l.length = eachR err k (l.length - k)) ∧ Hid (I k wr)) (fun _ _ _ i _ => l.length - (intOf i).toNat)
  case atStart => exact ⟨0, Nat.zero_le _, rfl, zH rfl, H0⟩
  case round =>
    obtain ⟨k, hk, rfl, hr, hI⟩ := hrel
    by_cases hlt : k < l.length
    · obtain ⟨b, off, rfl, hb, hc⟩ := (HRD.out k _ hlt hI.out).at (k := k) (by omega)
      have c0 : wr.cell? ⟨b, off + k * 2, none⟩ = some (.int .i64 (fg l k).1) := by have := hc (k * 2) (by omega); rw [fracs0] at this; exact this
      have c1 : wr.cell? ⟨b, off + k * 2 + 1, none⟩ = some (.int .i64 (fg l k).2) := by have := hc (k * 2 + 1) (by omega); rw [fracs1] at this; exact this
      clear hc
      by_cases hz : err k = 0
      · have hz' : (err k != 0) = false := by simpa using hz
        have HZ := zH hz
        clear hz
        go_wp2_with fail
        refine (HST.out k _ hlt (HAL.out _ _ _ hI.out)).mono ?_
        rintro e w' ⟨rfl, hI'⟩
        have hI' := zH hI'
        go_wp2_with fail
        go_roundw
        case rel => exact ⟨k + 1, by omega, by go_num, hr.out.trans (eachR_step hlt HZ.out), hI'⟩
        case measure => simp [intOf]; omega
      · have hz' : (err k != 0) = true := by simpa using hz
        have HZ := zH hz
        clear hz
        go_wp2_with fail
        refine (HST.out k _ hlt (HAL.out _ _ _ hI.out)).mono ?_
        rintro e w' ⟨rfl, hI'⟩
        have hI' := zH hI'
        go_wp2_with fail
        go_ret2
        have HS := eachR_stop hlt HZ.out
        exact ⟨by rw [hr.out, HS]; rfl, k + 1, by omega, hI'.out, fun h => by rw [hr.out, HS] at h; exact absurd h HZ.out⟩
    · have : k = l.length := by omega
      subst this
      go_wp2
      go_ret2
      exact ⟨by rw [hr.out, Nat.sub_self]; rfl, l.length, Nat.le_refl _, hI.out, fun _ => rfl⟩

theorem eachRg_any (l : List (Int × Int)) (a : Option Addr) (cap fid : Nat) (bx : Array Value) (w : World) (err : Nat → Int) (I : Nat → World → Prop) (hlen : l.length ≤ 100000)
    (hcf : ∀ args w, Sem.run Tryz.prog (callFunc fid args) w = .ok (.enter fid args) w)
    (h0 : I 0 w) (hrd : ∀ k w', k < l.length → I k w' → Reads w' a (l.length * 2) (fracs l)) (hal : ∀ k w' o, I k w' → I k (w'.alloc o))
    (hst : ∀ k w', k < l.length → I k w' → Calls Tryz.prog fid (#[.int .i64 k, .agg #[.int .i64 (fg l k).1, .int .i64 (fg l k).2]] ++ bx) w' fun e w'' => e = .returned (.int .i64 (err k)) ∧ I (k + 1) w'') :
    Calls Tryz.prog 142 #[.slice a l.length cap, .func (.func fid) #[] bx] w
      fun e w' => e = .returned (.tuple #[.int .i64 (eachR err 0 l.length).1, .int .i64 (eachR err 0 l.length).2]) ∧ ∃ k, k ≤ l.length ∧ I k w' ∧ ((eachR err 0 l.length).2 = 0 → k = l.length) := by
  have HRD := zH hrd
  have HST := zH hst
  have HAL := zH hal
  have H0 := zH h0
  clear hrd hst h0 hal
  go_enter Tryz.func142, Tryz.ntmps142
  go_wp2_with fail
  go_loopw [6, 7, 8, 11] (fun _ _ _ i wr => ∃ k : Nat, k ≤ l.length ∧ i = .int .i64 k ∧ Hid (eachR err 0 l.length = eachR err k (l.length - k)) ∧ Hid (I k wr)) (fun _ _ _ i _ => l.length - (intOf i).toNat)
  case atStart => exact ⟨0, Nat.zero_le _, rfl, zH rfl, H0⟩
  case round =>
    obtain ⟨k, hk, rfl, hr, hI⟩ := hrel
    by_cases hlt : k < l.length
    · obtain ⟨b, off, rfl, hb, hc⟩ := (HRD.out k _ hlt hI.out).at (k := k) (by omega)
      have c0 : wr.cell? ⟨b, off + k * 2, none⟩ = some (.int .i64 (fg l k).1) := by have := hc (k * 2) (by omega); rw [fracs0] at this; exact this
      have c1 : wr.cell? ⟨b, off + k * 2 + 1, none⟩ = some (.int .i64 (fg l k).2) := by have := hc (k * 2 + 1) (by omega); rw [fracs1] at this; exact this
      clear hc
      by_cases hz : err k = 0
      · have hz' : (err k != 0) = false := by simpa using hz
        have HZ := zH hz
        clear hz
        go_wp2_with fail
        refine (HST.out k _ hlt (HAL.out _ _ _ hI.out)).mono ?_
        rintro e w' ⟨rfl, hI'⟩
        have hI' := zH hI'
        go_wp2_with fail
        go_roundw
        case rel => exact ⟨k + 1, by omega, by go_num, hr.out.trans (eachR_step hlt HZ.out), hI'⟩
        case measure => simp [intOf]; omega
      · have hz' : (err k != 0) = true := by simpa using hz
        have HZ := zH hz
        clear hz
        go_wp2_with fail
        refine (HST.out k _ hlt (HAL.out _ _ _ hI.out)).mono ?_
        rintro e w' ⟨rfl, hI'⟩
        have hI' := zH hI'
        go_wp2_with fail
        go_ret2
        have HS := eachR_stop hlt HZ.out
        exact ⟨by rw [hr.out, HS]; rfl, k + 1, by omega, hI'.out, fun h => by rw [hr.out, HS] at h; exact absurd h HZ.out⟩
    · have : k = l.length := by omega
      subst this
      go_wp2
      go_ret2
      exact ⟨by rw [hr.out, Nat.sub_self]; rfl, l.length, Nat.le_refl _, hI.out, fun _ => rfl⟩

theorem eachFl_any (l : List (Int × Int × Int)) (a : Option Addr) (cap fid : Nat) (bx : Array Value) (w : World) (err : Nat → Int) (I : Nat → World → Prop) (hlen : l.length ≤ 100000)
    (hcf : ∀ args w, Sem.run Tryz.prog (callFunc fid args) w = .ok (.enter fid args) w)
    (h0 : I 0 w) (hrd : ∀ k w', k < l.length → I k w' → Reads w' a (l.length * 3) (flws l)) (hal : ∀ k w' o, I k w' → I k (w'.alloc o))
    (hst : ∀ k w', k < l.length → I k w' → Calls Tryz.prog fid (#[.int .i64 k, .agg #[.int .i64 (vg l k).1, .int .i64 (vg l k).2.1, .int .i64 (vg l k).2.2]] ++ bx) w' fun e w'' => e = .returned (.int .i64 (err k)) ∧ I (k + 1) w'') :
    Calls Tryz.prog 112 #[.slice a l.length cap, .func (.func fid) #[] bx] w
      fun e w' => e = .returned (.tuple #[.int .i64 (eachR err 0 l.length).1, .int .i64 (eachR err 0 l.length).2]) ∧ ∃ k, k ≤ l.length ∧ I k w' ∧ ((eachR err 0 l.length).2 = 0 → k = l.length) := by
  have HRD := zH hrd
  have HST := zH hst
  have HAL := zH hal
  have H0 := zH h0
  clear hrd hst h0 hal
  go_enter Tryz.func112, Tryz.ntmps112
  go_wp2_with fail
  go_loopw [6, 7, 8, 11] (fun _ _ _ i wr => ∃ k : Nat, k ≤ l.length ∧ i = .int .i64 k ∧ Hid (eachR err 0 l.length = eachR err k (l.length - k)) ∧ Hid (I k wr)) (fun _ _ _ i _ => l.length - (intOf i).toNat)
  case atStart => exact ⟨0, Nat.zero_le _, rfl, zH rfl, H0⟩
  case round =>
    obtain ⟨k, hk, rfl, hr, hI⟩ := hrel
    by_cases hlt : k < l.length
    · obtain ⟨b, off, rfl, hb, hc⟩ := (HRD.out k _ hlt hI.out).at (k := k) (by omega)
      have c0 : wr.cell? ⟨b, off + k * 3, none⟩ = some (.int .i64 (vg l k).1) := by have := hc (k * 3) (by omega); rw [flws0] at this; exact this
      have c1 : wr.cell? ⟨b, off + k * 3 + 1, none⟩ = some (.int .i64 (vg l k).2.1) := by have := hc (k * 3 + 1) (by omega); rw [flws1] at this; exact this
      have c2 : wr.cell? ⟨b, off + k * 3 + 1 + 1, none⟩ = some (.int .i64 (vg l k).2.2) := by have := hc (k * 3 + 1 + 1) (by omega); rw [flws2] at this; exact this
      clear hc
      by_cases hz : err k = 0
      · have hz' : (err k != 0) = false := by simpa using hz
        have HZ := zH hz
        clear hz
        go_wp2_with fail
        refine (HST.out k _ hlt (HAL.out _ _ _ hI.out)).mono ?_
        rintro e w' ⟨rfl, hI'⟩
        have hI' := zH hI'
        go_wp2_with fail
        go_roundw
        case rel => exact ⟨k + 1, by omega, by go_num, hr.out.trans (eachR_step hlt HZ.out), hI'⟩
        case measure => simp [intOf]; omega
      · have hz' : (err k != 0) = true := by simpa using hz
        have HZ := zH hz
        clear hz
        go_wp2_with fail
        refine (HST.out k _ hlt (HAL.out _ _ _ hI.out)).mono ?_
        rintro e w' ⟨rfl, hI'⟩
        have hI' := zH hI'
        go_wp2_with fail
        go_ret2
        have HS := eachR_stop hlt HZ.out
        exact ⟨by rw [hr.out, HS]; rfl, k + 1, by omega, hI'.out, fun h => by rw [hr.out, HS] at h; exact absurd h HZ.out⟩
    · have : k = l.length := by omega
      subst this
      go_wp2
      go_ret2
      exact ⟨by rw [hr.out, Nat.sub_self]; rfl, l.length, Nat.le_refl _, hI.out, fun _ => rfl⟩
end
section
set_option maxRecDepth 100000
set_option maxHeartbeats 1600000
open Go.RowKit
attribute [local go_sem] Oper.semAt_some

def ordB (l : List (Int × Int)) (k : Nat) : Bool := if k = 0 then (fg l 0).1 == 0 else decide ((fg l (k - 1)).1 < (fg l k).1) && decide ((fg l (k - 1)).2 < (fg l k).2)
def ptE (l : List (Int × Int)) (k : Nat) : Int := firstE [unl (wthn (fg l k).1 0 200 && wthn (fg l k).2 0 1000) 2, unl (ordB l k) 9]
/-- The index and the error of a plant. -/
def pltE (p : Plt) : Int := firstE [unl (wthn p.pump 0 50 && wthn p.on 0 1000 && wthn p.off 0 1000) 2, unl (decide (p.on < p.off)) 9]
def chP (p : Plt) : Int × Int := if fewE p.pts.length ≠ 0 then (0, fewE p.pts.length) else if (eachR (ptE p.pts) 0 p.pts.length).2 ≠ 0 then eachR (ptE p.pts) 0 p.pts.length else (0, pltE p)
abbrev plC (p : Plt) (a : Option Addr) (cap : Nat) : Array Value := #[.slice a p.pts.length cap, .int .i64 p.pump, .int .i64 p.on, .int .i64 p.off]

theorem pt1_any (l : List (Int × Int)) (a : Option Addr) (cap : Nat) (x1 x2 x3 : Value) (k bp : Nat) (w : World) (hk : k < l.length) (hlen : l.length ≤ 100000) (hp : Blk w bp #[.slice a l.length cap, x1, x2, x3]) (hr : Reads w a (l.length * 2) (fracs l)) :
    Calls Tryz.prog 133 #[.int .i64 k, .agg #[.int .i64 (fg l k).1, .int .i64 (fg l k).2], .pointer (some ⟨bp, 0, none⟩)] w fun e w' => e = .returned (.int .i64 (ptE l k)) ∧ Below w.heap.size w w' := by
  have HE : Hid (firstE [unl (wthn (fg l k).1 0 200 && wthn (fg l k).2 0 1000) 2, unl (ordB l k) 9] = ptE l k) := zH rfl
  obtain ⟨v, hv⟩ : ∃ v, (fg l k).1 = v := ⟨_, rfl⟩
  obtain ⟨q, hq⟩ : ∃ q, (fg l k).2 = q := ⟨_, rfl⟩
  obtain ⟨pe, hpe⟩ : ∃ e, ptE l k = e := ⟨_, rfl⟩
  rw [hpe] at HE ⊢
  clear hpe
  rcases k with _ | j
  · have ho : ordB l 0 = (v == 0) := by unfold ordB; rw [if_pos rfl, hv]
    rw [hv, hq, ho] at HE
    rw [hv, hq]
    clear hv hq ho hk hp hr
    cases hz : v == 0
    all_goals
      rw [hz] at HE
      cases hvo : wthn v 0 200
      all_goals
        rw [hvo] at HE
        have HV := zH hvo
        clear hvo
        go_enter Tryz.func133, Tryz.ntmps133
        go_wp2_with (first | (go_at_call 134; refine (isVolume_any _ _).mono ?_; rintro e w' ⟨rfl, rfl⟩; rw [HV.out]) | (go_at_call 135; refine (isPressure_any _ _).mono ?_; rintro e w' ⟨rfl, rfl⟩) | (go_at_call 94; refine (oUnless_any _ _ _).mono ?_; rintro e w' ⟨rfl, rfl⟩) | (go_at_call 92; refine (oFirst2_new _ _ _ _ (by simp)).mono ?_; rintro e w' ⟨rfl, rfl⟩))
        go_ret
        exact ⟨ret_int (by rw [← HE.out]; first | rfl | simp), bAlloc (bAlloc (bSelf w) _) _⟩
  · have hv' := hv
    obtain ⟨v', hv2⟩ : ∃ v, (fg l j).1 = v := ⟨_, rfl⟩
    obtain ⟨q', hq2⟩ : ∃ q, (fg l j).2 = q := ⟨_, rfl⟩
    have ho : ordB l (j + 1) = (decide (v' < v) && decide (q' < q)) := by unfold ordB; rw [if_neg (by omega), Nat.add_sub_cancel, hv, hq, hv2, hq2]
    rw [hv, hq, ho] at HE
    rw [hv, hq]
    obtain ⟨b, off, rfl, hb, hc⟩ := hr.at (k := j * 2) (by omega)
    have c0 : w.cell? ⟨b, off + j * 2, none⟩ = some (.int .i64 v') := by have := hc (j * 2) (by omega); rw [fracs0, hv2] at this; exact this
    have c1 : w.cell? ⟨b, off + j * 2 + 1, none⟩ = some (.int .i64 q') := by have := hc (j * 2 + 1) (by omega); rw [fracs1, hq2] at this; exact this
    obtain ⟨hbp, kp, -⟩ := hp
    have hj : j < l.length := by omega
    obtain ⟨n, hn⟩ : ∃ n, l.length = n := ⟨_, rfl⟩
    rw [hn] at hj hlen kp
    clear hv hq hv' hv2 hq2 ho hr hc hn hk
    cases hz : decide (v' < v)
    all_goals
      rw [hz] at HE
      have HZ := zH hz
      cases hvo : wthn v 0 200
      all_goals
        rw [hvo] at HE
        have HV := zH hvo
        clear hvo
        go_enter Tryz.func133, Tryz.ntmps133
        go_wp2_with (first | (go_at_call 134; refine (isVolume_any _ _).mono ?_; rintro e w' ⟨rfl, rfl⟩; rw [HV.out]) | (go_at_call 135; refine (isPressure_any _ _).mono ?_; rintro e w' ⟨rfl, rfl⟩) | (go_at_call 94; refine (oUnless_any _ _ _).mono ?_; rintro e w' ⟨rfl, rfl⟩) | (go_at_call 92; refine (oFirst2_new _ _ _ _ (by simp)).mono ?_; rintro e w' ⟨rfl, rfl⟩))
        go_ret
        exact ⟨ret_int (by rw [← HE.out]; first | rfl | simp), bAlloc (bAlloc (bAlloc (bSelf w) _) _) _⟩

theorem CheckPlant_any (p : Plt) (a : Option Addr) (cap : Nat) (w : World) (hlen : p.pts.length ≤ 100000) (hr : Reads w a (p.pts.length * 2) (fracs p.pts)) :
    Calls Tryz.prog 59 #[.agg (plC p a cap)] w fun e w' => e = .returned (.tuple #[.int .i64 (chP p).1, .int .i64 (chP p).2]) ∧ Below w.heap.size w w' := by
  have HEA := zH (fun W bp (hp : Blk W bp (plC p a cap)) (hb : Below w.heap.size w W) => eachPt_any p.pts a cap 133 #[.pointer (some ⟨bp, 0, none⟩)] W (ptE p.pts) (fun _ W' => Blk W' bp (plC p a cap) ∧ Below w.heap.size w W') hlen (by intro args w; go_simp) ⟨hp, hb⟩ (fun _ W' _ h => hr.to h.2) (fun _ W' o h => ⟨h.1.alloc o, bAlloc h.2 o⟩)
    (fun k W' hk h => (pt1_any p.pts a cap _ _ _ k bp W' hk hlen h.1 (hr.to h.2)).mono fun e w'' ⟨he, hb'⟩ => ⟨he, h.1.to hb', bThen h.2 hb'⟩))
  have H1 : Hid (chP p = if fewE p.pts.length ≠ 0 then (0, fewE p.pts.length) else if (eachR (ptE p.pts) 0 p.pts.length).2 ≠ 0 then eachR (ptE p.pts) 0 p.pts.length else (0, pltE p)) := zH rfl
  have H2 : Hid (firstE [unl (wthn p.pump 0 50 && wthn p.on 0 1000 && wthn p.off 0 1000) 2, unl (decide (p.on < p.off)) 9] = pltE p) := zH rfl
  obtain ⟨ch, hch⟩ : ∃ c, chP p = c := ⟨_, rfl⟩
  rw [hch] at H1 ⊢
  clear hch
  obtain ⟨pe, hpe⟩ : ∃ e, pltE p = e := ⟨_, rfl⟩
  rw [hpe] at H1 H2
  clear hpe
  obtain ⟨er, her⟩ : ∃ e, eachR (ptE p.pts) 0 p.pts.length = e := ⟨_, rfl⟩
  rw [her] at H1 HEA
  clear her
  obtain ⟨pts, pump, on, off⟩ := p
  dsimp only [plC] at *
  obtain ⟨n, hn⟩ : ∃ n, pts.length = n := ⟨_, rfl⟩
  rw [hn] at HEA H1 hlen ⊢
  obtain ⟨fe, hfe⟩ : ∃ e, fewE (n : Int) = e := ⟨_, rfl⟩
  have HFE := zH hfe
  rw [hfe] at H1
  clear hfe hr hn
  obtain ⟨e1, e2⟩ := er
  dsimp only at H1 HEA
  by_cases hf : fe = 0
  · by_cases he : e2 = 0
    · have hc : ch = (0, pe) := by rw [H1.out, if_neg (by simpa using hf), if_neg (by simpa using he)]
      subst hc
      clear H1
      subst he
      cases hv1 : wthn pump 0 50
      all_goals cases hv2 : wthn on 0 1000
      all_goals
        rw [hv1, hv2] at H2
        have HV1 := zH hv1
        have HV2 := zH hv2
        clear hv1 hv2
        go_enter Tryz.func59, Tryz.ntmps59
        go_wp2_with fail
        refine (oFew_any _ _).mono ?_
        rintro e w1 ⟨rfl, hb⟩
        rw [HFE.out, hf]
        have K0 : Hid (Blk w1 w.heap.size #[.slice a n cap, .int .i64 pump, .int .i64 on, .int .i64 off]) := zH ((Blk.new _ _ _).to hb)
        have HB := zH (bThen (bAlloc (bSelf w) _) hb)
        clear hb
        obtain ⟨-, k0, -⟩ := K0.out
        go_wp2_with fail
        refine (HEA.out w1 _ K0.out HB.out).mono ?_
        rintro e w2 ⟨rfl, kk, -, ⟨hk0, hbb⟩, -⟩
        replace K0 := zH hk0
        replace HB := zH hbb
        clear hk0 hbb k0
        obtain ⟨-, k0, -⟩ := K0.out
        go_wp2_with fail
        refine wp_region_quiet_tail 20 (fun w' => Below (World.heap w2).size (w2) w') (by kernel_rfl) (by kernel_rfl) (Below.refl _ _).drew ?_
        simp only [List.take_succ_cons, List.take_zero, List.drop_succ_cons, List.drop_zero]
        refine WQ.out ?_
        repeat (first | (refine WQ_no (by rfl) ?_; (simp only [Act.put, zzT, zzO, zzS])) | (refine WQ_yes (by rfl) ?_; apply Exists.intro; refine ⟨fun w1 hb1 => ?_, ?_⟩; (focus (((obtain ⟨-, k0, -⟩ := K0.out.to hb1); have hb1 := zH hb1; go_simp); (try (go_bits; try go_simp)); (try (rw [if_pos (by omega)]; try go_simp)); (first | done | ((first | (go_at_call 108; refine (isFlow_any _ _).mono ?_; rintro e w' ⟨rfl, rfl⟩; exact ⟨by rw [HV1.out], hb1.out⟩) | (go_at_call 135; refine (isPressure_any _ _).mono ?_; rintro e w' ⟨rfl, rfl⟩; first | exact ⟨by rw [HV2.out], hb1.out⟩ | exact ⟨rfl, hb1.out⟩) | (go_at_call 94; refine (oUnless_any _ _ _).mono ?_; rintro e w' ⟨rfl, rfl⟩; exact ⟨rfl, hb1.out⟩))) | (with_reducible rfl) | exact rfl))); (simp only [Act.put, zzT, zzO, zzS])))
        refine WQ_nil ?_
        intro w1 hb1
        replace HB := zH (bThen HB.out hb1)
        clear hb1
        go_wp2_with fail
        refine (oFirst2_new _ _ _ _ (by simp)).mono ?_
        rintro e w' ⟨rfl, rfl⟩
        go_wp2_with fail
        go_ret2
        exact ⟨tuple2_eq rfl (by rw [← H2.out]; first | rfl | simp), bAlloc HB.out _⟩
    · have hc : ch = (e1, e2) := by rw [H1.out, if_neg (by simpa using hf), if_pos he]
      subst hc
      clear H1 H2
      have he' : (e2 != 0) = true := by simpa using he
      clear he
      go_enter Tryz.func59, Tryz.ntmps59
      go_wp2_with fail
      refine (oFew_any _ _).mono ?_
      rintro e w1 ⟨rfl, hb⟩
      rw [HFE.out, hf]
      have K0 : Hid (Blk w1 w.heap.size #[.slice a n cap, .int .i64 pump, .int .i64 on, .int .i64 off]) := zH ((Blk.new _ _ _).to hb)
      have HB := zH (bThen (bAlloc (bSelf w) _) hb)
      clear hb
      obtain ⟨-, k0, -⟩ := K0.out
      go_wp2_with fail
      refine (HEA.out w1 _ K0.out HB.out).mono ?_
      rintro e w2 ⟨rfl, kk, -, ⟨hk0, hbb⟩, -⟩
      replace HB := zH hbb
      clear hk0 hbb k0
      go_wp2_with fail
      go_ret2
      exact ⟨rfl, HB.out⟩
  · have hc : ch = (0, fe) := by rw [H1.out, if_pos hf]
    subst hc
    clear H1 H2
    have hf' : (fe != 0) = true := by simpa using hf
    have HF := zH hf
    clear hf
    go_enter Tryz.func59, Tryz.ntmps59
    go_wp2_with fail
    refine (oFew_any _ _).mono ?_
    rintro e w1 ⟨rfl, hb⟩
    rw [HFE.out]
    have HB := zH (bThen (bAlloc (bSelf w) _) hb)
    clear hb
    go_wp2_with fail
    go_ret2
    exact ⟨rfl, HB.out⟩
end
end Go.Proofs.YtjfedpblkejmkaaGreat
