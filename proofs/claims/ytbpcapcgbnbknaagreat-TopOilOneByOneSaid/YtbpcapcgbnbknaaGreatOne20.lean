/-
  Texts of this claim, in their build order: OP3 OA2.
-/
import Derived.Test.YtbpcapcgbnbknaaGreatOne19
import Derived.Test.YtbpcapcgbnbknaaGreatOne5
import Derived.Outline
import Derived.Test.YtbpcapcgbnbknaaGreatOne0

namespace Go.Proofs.YtbpcapcgbnbknaaGreat
section
open Go.RowKit

abbrev OSt := Int × Bool
def ltS (a b : OSt) : Bool := decide (a.1 < b.1) || (a.1 == b.1 && !a.2 && b.2)
theorem ltS_irr (a : OSt) : ltS a a = false := by unfold ltS; cases a.2 <;> simp
theorem ltS_trans {a b c : OSt} (h1 : ltS a b = true) (h2 : ltS b c = true) : ltS a c = true := by
  unfold ltS at *
  simp only [Bool.or_eq_true, Bool.and_eq_true, decide_eq_true_eq, beq_iff_eq, Bool.not_eq_true'] at *
  rcases h1 with h1 | ⟨⟨e1, f1⟩, g1⟩ <;> rcases h2 with h2 | ⟨⟨e2, f2⟩, g2⟩
  · exact .inl (by omega)
  · exact .inl (by omega)
  · exact .inl (by omega)
  · rw [g1] at f2; cases f2
theorem ltS_tri (a b : OSt) : ltS a b = true ∨ a = b ∨ ltS b a = true := by
  obtain ⟨x, r⟩ := a
  obtain ⟨y, t⟩ := b
  unfold ltS
  rcases Int.lt_trichotomy x y with h | h | h
  · exact .inl (by simp [h])
  · subst h
    cases r <;> cases t <;> simp
  · exact .inr (.inr (by simp [h]))
theorem ltS_asym {a b : OSt} (h : ltS a b = true) : ltS b a = false := by
  cases h2 : ltS b a
  · rfl
  · have := ltS_trans h h2
    rw [ltS_irr] at this; cases this
/-- A sorted set of states. -/
def SrtS (l : List OSt) : Prop := l.Pairwise (fun a b => ltS a b = true)
def putS : List OSt → OSt → List OSt
  | [], s => [s]
  | x :: l, s => if x = s then x :: l else if ltS s x then s :: x :: l else x :: putS l s
theorem mem_putS {x s : OSt} : ∀ {l : List OSt}, x ∈ putS l s ↔ x = s ∨ x ∈ l
  | [] => by simp [putS]
  | y :: l => by
    unfold putS
    by_cases h : y = s
    · rw [if_pos h]; subst h; simp
    · rw [if_neg h]
      by_cases h2 : ltS s y = true
      · rw [if_pos h2]; simp
      · rw [if_neg h2, List.mem_cons, mem_putS, List.mem_cons]
        constructor
        · rintro (a | a | a)
          · exact .inr (.inl a)
          · exact .inl a
          · exact .inr (.inr a)
        · rintro (a | a | a)
          · exact .inr (.inl a)
          · exact .inl a
          · exact .inr (.inr a)
theorem srt_putS {s : OSt} : ∀ {l : List OSt}, SrtS l → SrtS (putS l s)
  | [], _ => by unfold putS SrtS; simp
  | y :: l, h => by
    unfold putS
    have h' := List.pairwise_cons.1 h
    by_cases e : y = s
    · rw [if_pos e]; exact h
    · rw [if_neg e]
      by_cases h2 : ltS s y = true
      · rw [if_pos h2]
        exact List.pairwise_cons.2 ⟨fun z hz => by
          rcases List.mem_cons.1 hz with rfl | hz
          · exact h2
          · exact ltS_trans h2 (h'.1 z hz), h⟩
      · rw [if_neg h2]
        refine List.pairwise_cons.2 ⟨fun z hz => ?_, srt_putS h'.2⟩
        rcases mem_putS.1 hz with rfl | hz
        · rcases ltS_tri y z with a | a | a
          · exact a
          · exact absurd a e
          · exact absurd a h2
        · exact h'.1 z hz
theorem srt_ext : ∀ {l m : List OSt}, SrtS l → SrtS m → (∀ x, x ∈ l ↔ x ∈ m) → l = m
  | [], [], _, _, _ => rfl
  | [], y :: m, _, _, h => by have := (h y).2 (List.mem_cons_self ..); cases this
  | x :: l, [], _, _, h => by have := (h x).1 (List.mem_cons_self ..); cases this
  | x :: l, y :: m, h1, h2, h => by
    have a := List.pairwise_cons.1 h1
    have b := List.pairwise_cons.1 h2
    have e : x = y := by
      rcases List.mem_cons.1 ((h x).1 (List.mem_cons_self ..)) with e | hx
      · exact e
      · rcases List.mem_cons.1 ((h y).2 (List.mem_cons_self ..)) with e | hy
        · exact e.symm
        · have := ltS_asym (b.1 x hx)
          rw [a.1 y hy] at this; cases this
    subst e
    congr 1
    refine srt_ext a.2 b.2 fun z => ?_
    have hz := h z
    rw [List.mem_cons, List.mem_cons] at hz
    constructor
    · intro hm
      rcases hz.1 (.inr hm) with e | e
      · subst e; have := a.1 z hm; rw [ltS_irr] at this; cases this
      · exact e
    · intro hm
      rcases hz.2 (.inr hm) with e | e
      · subst e; have := b.1 z hm; rw [ltS_irr] at this; cases this
      · exact e

/-- A level: the states in the order in which they are found, each with the demands that led to it; what emptied the plant first. -/
structure Tks where
  aft : List (OSt × List Int)
  emp : Option (List Int)
def tkD (p : Plt) (a : OSt × List Int) (s : Tks) (n : Int) : Tks :=
  match nxtA p a.1 n with
  | none => ⟨s.aft, match s.emp with | none => some (a.2 ++ [n]) | some e => some e⟩
  | some t => if s.aft.any (fun x => x.1 == t) then s else ⟨s.aft ++ [(t, a.2 ++ [n])], s.emp⟩
/-- The demands of a range. -/
def rngL (r : Int × Int) : List Int := (List.range (r.2 - r.1 + 1).toNat).map fun (i : Nat) => r.1 + (i : Int)
def tkR (p : Plt) (r : Int × Int) (s : Tks) (a : OSt × List Int) : Tks := (rngL r).foldl (tkD p a) s
def tkL (p : Plt) (r : Int × Int) (now : List (OSt × List Int)) : Tks := now.foldl (tkR p r) ⟨[], none⟩
/-- What the iterator yields. -/
def tks (p : Plt) : List (Int × Int) → List (OSt × List Int) → List (List (OSt × List Int) × Option (List Int))
  | [], now => [(now, none)]
  | r :: rs, now => (now, none) :: (match (tkL p r now).emp with
    | some e => [((tkL p r now).aft, some e)]
    | none => tks p rs (tkL p r now).aft)
def sts (l : List (OSt × List Int)) : List OSt := l.map (·.1)
/-- Is it so that a state follows by a demand of the range? -/
def Fol (p : Plt) (r : Int × Int) (l : List OSt) (t : OSt) : Prop := ∃ s ∈ l, ∃ n ∈ rngL r, nxtA p s n = some t
def Emp (p : Plt) (r : Int × Int) (l : List OSt) : Prop := ∃ s ∈ l, ∃ n ∈ rngL r, nxtA p s n = none
theorem tkD_mem {p : Plt} {a : OSt × List Int} {s : Tks} {n : Int} {t : OSt} : t ∈ sts (tkD p a s n).aft ↔ t ∈ sts s.aft ∨ nxtA p a.1 n = some t := by
  unfold tkD
  cases h : nxtA p a.1 n with
  | none => simp
  | some u =>
    dsimp only
    split
    · rename_i h2
      constructor
      · exact .inl
      · rintro (h3 | h3)
        · exact h3
        · cases h3
          obtain ⟨x, hx, e⟩ := List.any_eq_true.1 h2
          have : x.1 = t := by simpa using e
          exact List.mem_map.2 ⟨x, hx, this⟩
    · unfold sts
      rw [List.map_append, List.mem_append]
      simp [eq_comm]
theorem tkD_emp {p : Plt} {a : OSt × List Int} {s : Tks} {n : Int} : (tkD p a s n).emp = none ↔ s.emp = none ∧ nxtA p a.1 n ≠ none := by
  unfold tkD
  cases h : nxtA p a.1 n with
  | none => cases s.emp <;> simp
  | some u =>
    dsimp only
    split <;> simp
theorem tkD_nodup {p : Plt} {a : OSt × List Int} {s : Tks} {n : Int} (h : (sts s.aft).Nodup) : (sts (tkD p a s n).aft).Nodup := by
  unfold tkD
  cases hn : nxtA p a.1 n with
  | none => exact h
  | some u =>
    dsimp only
    split
    · exact h
    · rename_i h2
      unfold sts at *
      rw [List.map_append, List.nodup_append]
      refine ⟨h, by simp, fun x hx y hy => ?_⟩
      simp only [List.map_cons, List.map_nil, List.mem_singleton] at hy
      subst hy
      rintro rfl
      obtain ⟨z, hz, e⟩ := List.mem_map.1 hx
      exact h2 (List.any_eq_true.2 ⟨z, hz, by rw [e]; simp⟩)
theorem foldD_all {p : Plt} {a : OSt × List Int} : ∀ (l : List Int) (s : Tks),
    (∀ t, t ∈ sts (l.foldl (tkD p a) s).aft ↔ t ∈ sts s.aft ∨ ∃ n ∈ l, nxtA p a.1 n = some t) ∧ ((l.foldl (tkD p a) s).emp = none ↔ s.emp = none ∧ ∀ n ∈ l, nxtA p a.1 n ≠ none) ∧ ((sts s.aft).Nodup → (sts (l.foldl (tkD p a) s).aft).Nodup)
  | [], s => by simp
  | n :: l, s => by
    obtain ⟨h1, h2, h3⟩ := foldD_all l (tkD p a s n)
    rw [List.foldl_cons]
    refine ⟨fun t => ?_, ?_, fun h => h3 (tkD_nodup h)⟩
    · rw [h1, tkD_mem]; simp [or_assoc]
    · rw [h2, tkD_emp]; simp [and_assoc]
theorem foldR_all {p : Plt} {r : Int × Int} : ∀ (now : List (OSt × List Int)) (s : Tks),
    (∀ t, t ∈ sts (now.foldl (tkR p r) s).aft ↔ t ∈ sts s.aft ∨ Fol p r (sts now) t) ∧ ((now.foldl (tkR p r) s).emp = none ↔ s.emp = none ∧ ¬ Emp p r (sts now)) ∧ ((sts s.aft).Nodup → (sts (now.foldl (tkR p r) s).aft).Nodup)
  | [], s => by simp [Fol, Emp, sts]
  | a :: now, s => by
    obtain ⟨h1, h2, h3⟩ := foldR_all now (tkR p r s a)
    obtain ⟨g1, g2, g3⟩ := foldD_all (p := p) (a := a) (rngL r) s
    rw [List.foldl_cons]
    refine ⟨fun t => ?_, ?_, fun h => h3 (g3 h)⟩
    · rw [h1]; unfold tkR; rw [g1]
      unfold Fol sts
      simp only [List.map_cons, List.mem_cons, exists_eq_or_imp, or_assoc]
    · rw [h2]; unfold tkR; rw [g2]
      unfold Emp sts
      simp only [List.map_cons, List.mem_cons, exists_eq_or_imp, not_or, and_assoc]
      constructor
      · rintro ⟨a1, a2, a3⟩
        exact ⟨a1, fun ⟨n, hn, e⟩ => a2 n hn e, a3⟩
      · rintro ⟨a1, a2, a3⟩
        exact ⟨a1, fun n hn e => a2 ⟨n, hn, e⟩, a3⟩

/-- The reference's states after a range. -/
def aftR (p : Plt) (r : Int × Int) (l : List OSt) : List OSt := l.foldl (fun o s => (rngL r).foldl (fun o n => match nxtA p s n with | none => o | some t => putS o t) o) []
theorem aftR_in {p : Plt} {s : OSt} : ∀ (l : List Int) (o : List OSt), (∀ t, t ∈ l.foldl (fun o n => match nxtA p s n with | none => o | some t => putS o t) o ↔ t ∈ o ∨ ∃ n ∈ l, nxtA p s n = some t) ∧ (SrtS o → SrtS (l.foldl (fun o n => match nxtA p s n with | none => o | some t => putS o t) o))
  | [], o => by simp
  | n :: l, o => by
    rw [List.foldl_cons]
    cases h : nxtA p s n with
    | none =>
      obtain ⟨h1, h2⟩ := aftR_in (p := p) (s := s) l o
      exact ⟨fun t => by rw [h1]; simp [h], h2⟩
    | some u =>
      obtain ⟨h1, h2⟩ := aftR_in (p := p) (s := s) l (putS o u)
      refine ⟨fun t => ?_, fun ho => h2 (srt_putS ho)⟩
      rw [h1, mem_putS]
      simp only [List.mem_cons, exists_eq_or_imp, h, Option.some.injEq, ← or_assoc]
      constructor
      · rintro ((rfl | a) | a)
        · exact .inl (.inr rfl)
        · exact .inl (.inl a)
        · exact .inr a
      · rintro ((a | rfl) | a)
        · exact .inl (.inr a)
        · exact .inl (.inl rfl)
        · exact .inr a
theorem aftR_all {p : Plt} {r : Int × Int} : ∀ (l o : List OSt), (∀ t, t ∈ l.foldl (fun o s => (rngL r).foldl (fun o n => match nxtA p s n with | none => o | some t => putS o t) o) o ↔ t ∈ o ∨ Fol p r l t) ∧ (SrtS o → SrtS (l.foldl (fun o s => (rngL r).foldl (fun o n => match nxtA p s n with | none => o | some t => putS o t) o) o))
  | [], o => by simp [Fol]
  | s :: l, o => by
    rw [List.foldl_cons]
    obtain ⟨g1, g2⟩ := aftR_in (p := p) (s := s) (rngL r) o
    obtain ⟨h1, h2⟩ := aftR_all (p := p) (r := r) l ((rngL r).foldl (fun o n => match nxtA p s n with | none => o | some t => putS o t) o)
    refine ⟨fun t => ?_, fun ho => h2 (g2 ho)⟩
    rw [h1, g1]
    unfold Fol
    simp only [List.mem_cons, exists_eq_or_imp, or_assoc]
theorem mem_aftR {p : Plt} {r : Int × Int} {l : List OSt} {t : OSt} : t ∈ aftR p r l ↔ Fol p r l t := by
  have := (aftR_all (p := p) (r := r) l []).1 t
  unfold aftR
  rw [this]; simp
theorem srt_aftR {p : Plt} {r : Int × Int} {l : List OSt} : SrtS (aftR p r l) := (aftR_all (p := p) (r := r) l []).2 List.Pairwise.nil
end
section
set_option maxRecDepth 100000
set_option maxHeartbeats 800000
open Go.RowKit

def sg (l : List OSt) (i : Nat) : OSt := l.getD i (0, false)
def osts (l : List OSt) (j : Nat) : Value := if j % 2 = 0 then .int .i64 (sg l (j / 2)).1 else .bool (sg l (j / 2)).2
theorem osts0 (l : List OSt) (i : Nat) : osts l (i * 2) = .int .i64 (sg l i).1 := by unfold osts; rw [if_pos (by omega), show i * 2 / 2 = i by omega]
theorem osts1 (l : List OSt) (i : Nat) : osts l (i * 2 + 1) = .bool (sg l i).2 := by unfold osts; rw [if_neg (by omega), show (i * 2 + 1) / 2 = i by omega]
theorem eachPt_any (l : List (Int × Int)) (a : Option Addr) (cap fid : Nat) (bx : Array Value) (w : World) (err : Nat → Int) (I : Nat → World → Prop) (hlen : l.length ≤ 100000)
    (hcf : ∀ args w, Sem.run Tryz.prog (callFunc fid args) w = .ok (.enter fid args) w)
    (h0 : I 0 w) (hrd : ∀ k w', k < l.length → I k w' → Reads w' a (l.length * 2) (fracs l)) (hal : ∀ k w' o, I k w' → I k (w'.alloc o))
    (hst : ∀ k w', k < l.length → I k w' → Calls Tryz.prog fid (#[.int .i64 k, .agg #[.int .i64 (fg l k).1, .int .i64 (fg l k).2]] ++ bx) w' fun e w'' => e = .returned (.int .i64 (err k)) ∧ I (k + 1) w'') :
    Calls Tryz.prog 187 #[.slice a l.length cap, .func (.func fid) #[] bx] w
      fun e w' => e = .returned (.tuple #[.int .i64 (eachR err 0 l.length).1, .int .i64 (eachR err 0 l.length).2]) ∧ ∃ k, k ≤ l.length ∧ I k w' ∧ ((eachR err 0 l.length).2 = 0 → k = l.length) := by
  have HRD := zH hrd
  have HST := zH hst
  have HAL := zH hal
  have H0 := zH h0
  clear hrd hst h0 hal
  go_enter Tryz.func187, Tryz.ntmps187
  go_wp2_with fail
  go_loopw [6, 7, 8, 11] (fun _ _ _ i wr => ∃ k : Nat, k ≤ l.length ∧ i = .int .i64 k ∧ Hid (eachR err 0 l.length = eachR err k (l.length - k)) ∧ Hid (I k wr)) (fun _ _ _ i _ => l.length - (intOf i).toNat)
  case atStart => exact ⟨0, Nat.zero_le _, rfl, zH rfl, H0⟩
  case round =>
    obtain ⟨k, hk, rfl, hr, hI⟩ := hrel
    by_cases hlt : k < l.length
    · obtain ⟨b, off, rfl, hb, hc⟩ := (HRD.out k _ hlt hI.out).at (k := k) (by omega)
      have c0 : wr.cell? ⟨b, off + k * 2, none⟩ = some (.int .i64 (fg l k).1) := by have := hc (k * 2) (by omega); rw [fracs0] at this; exact this
      have c1 : wr.cell? ⟨b, off + k * 2 + 1, none⟩ = some (.int .i64 (fg l k).2) := by have := hc (k * 2 + 1) (by omega); rw [fracs1] at this; exact this
      clear hc
      by_cases hz : err k = 0
      · have hz' : (err k != 0) = false := by simpa using hz
        have HZ := zH hz
        clear hz
        go_wp2_with fail
        refine (HST.out k _ hlt (HAL.out _ _ _ hI.out)).mono ?_
        rintro e w' ⟨rfl, hI'⟩
        have hI' := zH hI'
        go_wp2_with fail
        go_roundw
        case rel => exact ⟨k + 1, by omega, by go_num, hr.out.trans (eachR_step hlt HZ.out), hI'⟩
        case measure => simp [intOf]; omega
      · have hz' : (err k != 0) = true := by simpa using hz
        have HZ := zH hz
        clear hz
        go_wp2_with fail
        refine (HST.out k _ hlt (HAL.out _ _ _ hI.out)).mono ?_
        rintro e w' ⟨rfl, hI'⟩
        have hI' := zH hI'
        go_wp2_with fail
        go_ret2
        have HS := eachR_stop hlt HZ.out
        exact ⟨by rw [hr.out, HS]; rfl, k + 1, by omega, hI'.out, fun h => by rw [hr.out, HS] at h; exact absurd h HZ.out⟩
    · have : k = l.length := by omega
      subst this
      go_wp2
      go_ret2
      exact ⟨by rw [hr.out, Nat.sub_self]; rfl, l.length, Nat.le_refl _, hI.out, fun _ => rfl⟩

theorem eachRg_any (l : List (Int × Int)) (a : Option Addr) (cap fid : Nat) (bx : Array Value) (w : World) (err : Nat → Int) (I : Nat → World → Prop) (hlen : l.length ≤ 100000)
    (hcf : ∀ args w, Sem.run Tryz.prog (callFunc fid args) w = .ok (.enter fid args) w)
    (h0 : I 0 w) (hrd : ∀ k w', k < l.length → I k w' → Reads w' a (l.length * 2) (fracs l)) (hal : ∀ k w' o, I k w' → I k (w'.alloc o))
    (hst : ∀ k w', k < l.length → I k w' → Calls Tryz.prog fid (#[.int .i64 k, .agg #[.int .i64 (fg l k).1, .int .i64 (fg l k).2]] ++ bx) w' fun e w'' => e = .returned (.int .i64 (err k)) ∧ I (k + 1) w'') :
    Calls Tryz.prog 190 #[.slice a l.length cap, .func (.func fid) #[] bx] w
      fun e w' => e = .returned (.tuple #[.int .i64 (eachR err 0 l.length).1, .int .i64 (eachR err 0 l.length).2]) ∧ ∃ k, k ≤ l.length ∧ I k w' ∧ ((eachR err 0 l.length).2 = 0 → k = l.length) := by
  have HRD := zH hrd
  have HST := zH hst
  have HAL := zH hal
  have H0 := zH h0
  clear hrd hst h0 hal
  go_enter Tryz.func190, Tryz.ntmps190
  go_wp2_with fail
  go_loopw [6, 7, 8, 11] (fun _ _ _ i wr => ∃ k : Nat, k ≤ l.length ∧ i = .int .i64 k ∧ Hid (eachR err 0 l.length = eachR err k (l.length - k)) ∧ Hid (I k wr)) (fun _ _ _ i _ => l.length - (intOf i).toNat)
  case atStart => exact ⟨0, Nat.zero_le _, rfl, zH rfl, H0⟩
  case round =>
    obtain ⟨k, hk, rfl, hr, hI⟩ := hrel
    by_cases hlt : k < l.length
    · obtain ⟨b, off, rfl, hb, hc⟩ := (HRD.out k _ hlt hI.out).at (k := k) (by omega)
      have c0 : wr.cell? ⟨b, off + k * 2, none⟩ = some (.int .i64 (fg l k).1) := by have := hc (k * 2) (by omega); rw [fracs0] at this; exact this
      have c1 : wr.cell? ⟨b, off + k * 2 + 1, none⟩ = some (.int .i64 (fg l k).2) := by have := hc (k * 2 + 1) (by omega); rw [fracs1] at this; exact this
      clear hc
      by_cases hz : err k = 0
      · have hz' : (err k != 0) = false := by simpa using hz
        have HZ := zH hz
        clear hz
        go_wp2_with fail
        refine (HST.out k _ hlt (HAL.out _ _ _ hI.out)).mono ?_
        rintro e w' ⟨rfl, hI'⟩
        have hI' := zH hI'
        go_wp2_with fail
        go_roundw
        case rel => exact ⟨k + 1, by omega, by go_num, hr.out.trans (eachR_step hlt HZ.out), hI'⟩
        case measure => simp [intOf]; omega
      · have hz' : (err k != 0) = true := by simpa using hz
        have HZ := zH hz
        clear hz
        go_wp2_with fail
        refine (HST.out k _ hlt (HAL.out _ _ _ hI.out)).mono ?_
        rintro e w' ⟨rfl, hI'⟩
        have hI' := zH hI'
        go_wp2_with fail
        go_ret2
        have HS := eachR_stop hlt HZ.out
        exact ⟨by rw [hr.out, HS]; rfl, k + 1, by omega, hI'.out, fun h => by rw [hr.out, HS] at h; exact absurd h HZ.out⟩
    · have : k = l.length := by omega
      subst this
      go_wp2
      go_ret2
      exact ⟨by rw [hr.out, Nat.sub_self]; rfl, l.length, Nat.le_refl _, hI.out, fun _ => rfl⟩
end
end Go.Proofs.YtbpcapcgbnbknaaGreat
