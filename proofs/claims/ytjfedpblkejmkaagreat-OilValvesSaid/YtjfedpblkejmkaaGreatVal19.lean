/-
  Texts of this claim, in their build order: OP3 OA2 G8.
-/
import Derived.Test.YtjfedpblkejmkaaGreatVal18
import Derived.Test.YtjfedpblkejmkaaGreatVal5
import Derived.Outline
import Derived.Shelf.Bits.Mul64
import Derived.Shelf.Spec.BitsCarry
import Derived.Test.YtjfedpblkejmkaaGreatVal3
import Derived.Test.YtjfedpblkejmkaaGreatVal7
import Derived.Lib.AppendZerosOnto

/-
  Plain laws of classes: the states of a class, level by level, with the first demands that lead to each; the reference's sorted sets.
-/
namespace Go.Proofs.YtjfedpblkejmkaaGreat
open Go.RowKit

abbrev OSt := Int × Bool
def ltS (a b : OSt) : Bool := decide (a.1 < b.1) || (a.1 == b.1 && !a.2 && b.2)
theorem ltS_irr (a : OSt) : ltS a a = false := by unfold ltS; cases a.2 <;> simp
theorem ltS_trans {a b c : OSt} (h1 : ltS a b = true) (h2 : ltS b c = true) : ltS a c = true := by
  unfold ltS at *
  simp only [Bool.or_eq_true, Bool.and_eq_true, decide_eq_true_eq, beq_iff_eq, Bool.not_eq_true'] at *
  rcases h1 with h1 | ⟨⟨e1, f1⟩, g1⟩ <;> rcases h2 with h2 | ⟨⟨e2, f2⟩, g2⟩
  · exact .inl (by omega)
  · exact .inl (by omega)
  · exact .inl (by omega)
  · rw [g1] at f2; cases f2
theorem ltS_tri (a b : OSt) : ltS a b = true ∨ a = b ∨ ltS b a = true := by
  obtain ⟨x, r⟩ := a
  obtain ⟨y, t⟩ := b
  unfold ltS
  rcases Int.lt_trichotomy x y with h | h | h
  · exact .inl (by simp [h])
  · subst h
    cases r <;> cases t <;> simp
  · exact .inr (.inr (by simp [h]))
theorem ltS_asym {a b : OSt} (h : ltS a b = true) : ltS b a = false := by
  cases h2 : ltS b a
  · rfl
  · have := ltS_trans h h2
    rw [ltS_irr] at this; cases this
/-- A sorted set of states. -/
def SrtS (l : List OSt) : Prop := l.Pairwise (fun a b => ltS a b = true)
theorem srt_ext : ∀ {l m : List OSt}, SrtS l → SrtS m → (∀ x, x ∈ l ↔ x ∈ m) → l = m
  | [], [], _, _, _ => rfl
  | [], y :: m, _, _, h => by have := (h y).2 (List.mem_cons_self ..); cases this
  | x :: l, [], _, _, h => by have := (h x).1 (List.mem_cons_self ..); cases this
  | x :: l, y :: m, h1, h2, h => by
    have a := List.pairwise_cons.1 h1
    have b := List.pairwise_cons.1 h2
    have e : x = y := by
      rcases List.mem_cons.1 ((h x).1 (List.mem_cons_self ..)) with e | hx
      · exact e
      · rcases List.mem_cons.1 ((h y).2 (List.mem_cons_self ..)) with e | hy
        · exact e.symm
        · have := ltS_asym (b.1 x hx)
          rw [a.1 y hy] at this; cases this
    subst e
    congr 1
    refine srt_ext a.2 b.2 fun z => ?_
    have hz := h z
    rw [List.mem_cons, List.mem_cons] at hz
    constructor
    · intro hm
      rcases hz.1 (.inr hm) with e | e
      · subst e; have := a.1 z hm; rw [ltS_irr] at this; cases this
      · exact e
    · intro hm
      rcases hz.2 (.inr hm) with e | e
      · subst e; have := b.1 z hm; rw [ltS_irr] at this; cases this
      · exact e

/-- A level: the states in the order in which they are found, each with the demands that led to it; what emptied the plant first. -/
structure Tks where
  aft : List (OSt × List Int)
  emp : Option (List Int)
def tkD (p : Plt) (a : OSt × List Int) (s : Tks) (n : Int) : Tks :=
  match nxtA p a.1 n with
  | none => ⟨s.aft, match s.emp with | none => some (a.2 ++ [n]) | some e => some e⟩
  | some t => if s.aft.any (fun x => x.1 == t) then s else ⟨s.aft ++ [(t, a.2 ++ [n])], s.emp⟩
/-- The demands of a range. -/
def rngL (r : Int × Int) : List Int := (List.range (r.2 - r.1 + 1).toNat).map fun (i : Nat) => r.1 + (i : Int)
def tkR (p : Plt) (r : Int × Int) (s : Tks) (a : OSt × List Int) : Tks := (rngL r).foldl (tkD p a) s
def tkL (p : Plt) (r : Int × Int) (now : List (OSt × List Int)) : Tks := now.foldl (tkR p r) ⟨[], none⟩
/-- What the iterator yields. -/
def tks (p : Plt) : List (Int × Int) → List (OSt × List Int) → List (List (OSt × List Int) × Option (List Int))
  | [], now => [(now, none)]
  | r :: rs, now => (now, none) :: (match (tkL p r now).emp with
    | some e => [((tkL p r now).aft, some e)]
    | none => tks p rs (tkL p r now).aft)
def sts (l : List (OSt × List Int)) : List OSt := l.map (·.1)
/-- Is it so that a state follows by a demand of the range? -/
def Fol (p : Plt) (r : Int × Int) (l : List OSt) (t : OSt) : Prop := ∃ s ∈ l, ∃ n ∈ rngL r, nxtA p s n = some t
def Emp (p : Plt) (r : Int × Int) (l : List OSt) : Prop := ∃ s ∈ l, ∃ n ∈ rngL r, nxtA p s n = none
theorem tkD_mem {p : Plt} {a : OSt × List Int} {s : Tks} {n : Int} {t : OSt} : t ∈ sts (tkD p a s n).aft ↔ t ∈ sts s.aft ∨ nxtA p a.1 n = some t := by
  unfold tkD
  cases h : nxtA p a.1 n with
  | none => simp
  | some u =>
    dsimp only
    split
    · rename_i h2
      constructor
      · exact .inl
      · rintro (h3 | h3)
        · exact h3
        · cases h3
          obtain ⟨x, hx, e⟩ := List.any_eq_true.1 h2
          have : x.1 = t := by simpa using e
          exact List.mem_map.2 ⟨x, hx, this⟩
    · unfold sts
      rw [List.map_append, List.mem_append]
      simp [eq_comm]
theorem tkD_emp {p : Plt} {a : OSt × List Int} {s : Tks} {n : Int} : (tkD p a s n).emp = none ↔ s.emp = none ∧ nxtA p a.1 n ≠ none := by
  unfold tkD
  cases h : nxtA p a.1 n with
  | none => cases s.emp <;> simp
  | some u =>
    dsimp only
    split <;> simp
theorem tkD_nodup {p : Plt} {a : OSt × List Int} {s : Tks} {n : Int} (h : (sts s.aft).Nodup) : (sts (tkD p a s n).aft).Nodup := by
  unfold tkD
  cases hn : nxtA p a.1 n with
  | none => exact h
  | some u =>
    dsimp only
    split
    · exact h
    · rename_i h2
      unfold sts at *
      rw [List.map_append, List.nodup_append]
      refine ⟨h, by simp, fun x hx y hy => ?_⟩
      simp only [List.map_cons, List.map_nil, List.mem_singleton] at hy
      subst hy
      rintro rfl
      obtain ⟨z, hz, e⟩ := List.mem_map.1 hx
      exact h2 (List.any_eq_true.2 ⟨z, hz, by rw [e]; simp⟩)
theorem foldD_all {p : Plt} {a : OSt × List Int} : ∀ (l : List Int) (s : Tks),
    (∀ t, t ∈ sts (l.foldl (tkD p a) s).aft ↔ t ∈ sts s.aft ∨ ∃ n ∈ l, nxtA p a.1 n = some t) ∧ ((l.foldl (tkD p a) s).emp = none ↔ s.emp = none ∧ ∀ n ∈ l, nxtA p a.1 n ≠ none) ∧ ((sts s.aft).Nodup → (sts (l.foldl (tkD p a) s).aft).Nodup)
  | [], s => by simp
  | n :: l, s => by
    obtain ⟨h1, h2, h3⟩ := foldD_all l (tkD p a s n)
    rw [List.foldl_cons]
    refine ⟨fun t => ?_, ?_, fun h => h3 (tkD_nodup h)⟩
    · rw [h1, tkD_mem]; simp [or_assoc]
    · rw [h2, tkD_emp]; simp [and_assoc]
theorem foldR_all {p : Plt} {r : Int × Int} : ∀ (now : List (OSt × List Int)) (s : Tks),
    (∀ t, t ∈ sts (now.foldl (tkR p r) s).aft ↔ t ∈ sts s.aft ∨ Fol p r (sts now) t) ∧ ((now.foldl (tkR p r) s).emp = none ↔ s.emp = none ∧ ¬ Emp p r (sts now)) ∧ ((sts s.aft).Nodup → (sts (now.foldl (tkR p r) s).aft).Nodup)
  | [], s => by simp [Fol, Emp, sts]
  | a :: now, s => by
    obtain ⟨h1, h2, h3⟩ := foldR_all now (tkR p r s a)
    obtain ⟨g1, g2, g3⟩ := foldD_all (p := p) (a := a) (rngL r) s
    rw [List.foldl_cons]
    refine ⟨fun t => ?_, ?_, fun h => h3 (g3 h)⟩
    · rw [h1]; unfold tkR; rw [g1]
      unfold Fol sts
      simp only [List.map_cons, List.mem_cons, exists_eq_or_imp, or_assoc]
    · rw [h2]; unfold tkR; rw [g2]
      unfold Emp sts
      simp only [List.map_cons, List.mem_cons, exists_eq_or_imp, not_or, and_assoc]
      constructor
      · rintro ⟨a1, a2, a3⟩
        exact ⟨a1, fun ⟨n, hn, e⟩ => a2 n hn e, a3⟩
      · rintro ⟨a1, a2, a3⟩
        exact ⟨a1, fun n hn e => a2 ⟨n, hn, e⟩, a3⟩

end Go.Proofs.YtjfedpblkejmkaaGreat

/-
  The each's of package oil: the index and the error of the first invalid item.
-/
namespace Go.Proofs.YtjfedpblkejmkaaGreat
open Go.RowKit

def sg (l : List OSt) (i : Nat) : OSt := l.getD i (0, false)
def osts (l : List OSt) (j : Nat) : Value := if j % 2 = 0 then .int .i64 (sg l (j / 2)).1 else .bool (sg l (j / 2)).2
theorem osts0 (l : List OSt) (i : Nat) : osts l (i * 2) = .int .i64 (sg l i).1 := by unfold osts; rw [if_pos (by omega), show i * 2 / 2 = i by omega]
theorem osts1 (l : List OSt) (i : Nat) : osts l (i * 2 + 1) = .bool (sg l i).2 := by unfold osts; rw [if_neg (by omega), show (i * 2 + 1) / 2 = i by omega]
def vg (l : List (Int × Int × Int)) (i : Nat) : Int × Int × Int := l.getD i (0, 0, 0)
def flws (l : List (Int × Int × Int)) (j : Nat) : Value := .int .i64 (if j % 3 = 0 then (vg l (j / 3)).1 else if j % 3 = 1 then (vg l (j / 3)).2.1 else (vg l (j / 3)).2.2)
theorem flws0 (l : List (Int × Int × Int)) (i : Nat) : flws l (i * 3) = .int .i64 (vg l i).1 := by unfold flws; rw [if_pos (by omega), show i * 3 / 3 = i by omega]
theorem flws1 (l : List (Int × Int × Int)) (i : Nat) : flws l (i * 3 + 1) = .int .i64 (vg l i).2.1 := by unfold flws; rw [if_neg (by omega), if_pos (by omega), show (i * 3 + 1) / 3 = i by omega]
theorem flws2 (l : List (Int × Int × Int)) (i : Nat) : flws l (i * 3 + 1 + 1) = .int .i64 (vg l i).2.2 := by unfold flws; rw [if_neg (by omega), if_neg (by omega), show (i * 3 + 1 + 1) / 3 = i by omega]

set_option maxHeartbeats 800000 in
set_option maxRecDepth 100000 in
theorem eachPt_any (l : List (Int × Int)) (a : Option Addr) (cap fid : Nat) (bx : Array Value) (w : World) (err : Nat → Int) (I : Nat → World → Prop) (hlen : l.length ≤ 100000)
    (hcf : ∀ args w, Sem.run Tryz.prog (callFunc fid args) w = .ok (.enter fid args) w)
    (h0 : I 0 w) (hrd : ∀ k w', k < l.length → I k w' → Reads w' a (l.length * 2) (fracs l)) (hal : ∀ k w' o, I k w' → I k (w'.alloc o))
    (hst : ∀ k w', k < l.length → I k w' → Calls Tryz.prog fid (#[.int .i64 k, .agg #[.int .i64 (fg l k).1, .int .i64 (fg l k).2]] ++ bx) w' fun e w'' => e = .returned (.int .i64 (err k)) ∧ I (k + 1) w'') :
    Calls Tryz.prog 132 #[.slice a l.length cap, .func (.func fid) #[] bx] w
      fun e w' => e = .returned (.tuple #[.int .i64 (eachR err 0 l.length).1, .int .i64 (eachR err 0 l.length).2]) ∧ ∃ k, k ≤ l.length ∧ I k w' ∧ ((eachR err 0 l.length).2 = 0 → k = l.length) := by
  have HRD := Lib.hid hrd
  have HST := Lib.hid hst
  have HAL := Lib.hid hal
  have H0 := Lib.hid h0
  clear hrd hst h0 hal
  go_enter Tryz.func132, Tryz.ntmps132
  go_wp2_with fail
  go_loopw [6, 7, 8, 11] (fun _ _ _ i wr => ∃ k : Nat, k ≤ l.length ∧ i = .int .i64 k ∧ Hid (eachR err 0 l.length = eachR err k (l.length - k)) ∧ Hid (I k wr)) (fun _ _ _ i _ => l.length - (intOf i).toNat)
  case atStart => exact ⟨0, Nat.zero_le _, rfl, Lib.hid rfl, H0⟩
  case round =>
    obtain ⟨k, hk, rfl, hr, hI⟩ := hrel
    by_cases hlt : k < l.length
    · obtain ⟨b, off, rfl, hb, hc⟩ := (HRD.out k _ hlt hI.out).at (k := k) (by omega)
      have c0 : wr.cell? ⟨b, off + k * 2, none⟩ = some (.int .i64 (fg l k).1) := by have := hc (k * 2) (by omega); rw [fracs0] at this; exact this
      have c1 : wr.cell? ⟨b, off + k * 2 + 1, none⟩ = some (.int .i64 (fg l k).2) := by have := hc (k * 2 + 1) (by omega); rw [fracs1] at this; exact this
      clear hc
      by_cases hz : err k = 0
      · have hz' : (err k != 0) = false := by simpa using hz
        have HZ := Lib.hid hz
        clear hz
        go_wp2_with fail
        refine (HST.out k _ hlt (HAL.out _ _ _ hI.out)).mono ?_
        rintro e w' ⟨rfl, hI'⟩
        have hI' := Lib.hid hI'
        go_wp2_with fail
        go_roundw
        case rel => exact ⟨k + 1, by omega, by go_num, hr.out.trans (eachR_step hlt HZ.out), hI'⟩
        case measure => simp [intOf]; omega
      · have hz' : (err k != 0) = true := by simpa using hz
        have HZ := Lib.hid hz
        clear hz
        go_wp2_with fail
        refine (HST.out k _ hlt (HAL.out _ _ _ hI.out)).mono ?_
        rintro e w' ⟨rfl, hI'⟩
        have hI' := Lib.hid hI'
        go_wp2_with fail
        go_ret2
        have HS := eachR_stop hlt HZ.out
        exact ⟨by rw [hr.out, HS]; rfl, k + 1, by omega, hI'.out, fun h => by rw [hr.out, HS] at h; exact absurd h HZ.out⟩
    · have : k = l.length := by omega
      subst this
      go_wp2
      go_ret2
      exact ⟨by rw [hr.out, Nat.sub_self]; rfl, l.length, Nat.le_refl _, hI.out, fun _ => rfl⟩

set_option maxHeartbeats 800000 in
set_option maxRecDepth 100000 in
theorem eachRg_any (l : List (Int × Int)) (a : Option Addr) (cap fid : Nat) (bx : Array Value) (w : World) (err : Nat → Int) (I : Nat → World → Prop) (hlen : l.length ≤ 100000)
    (hcf : ∀ args w, Sem.run Tryz.prog (callFunc fid args) w = .ok (.enter fid args) w)
    (h0 : I 0 w) (hrd : ∀ k w', k < l.length → I k w' → Reads w' a (l.length * 2) (fracs l)) (hal : ∀ k w' o, I k w' → I k (w'.alloc o))
    (hst : ∀ k w', k < l.length → I k w' → Calls Tryz.prog fid (#[.int .i64 k, .agg #[.int .i64 (fg l k).1, .int .i64 (fg l k).2]] ++ bx) w' fun e w'' => e = .returned (.int .i64 (err k)) ∧ I (k + 1) w'') :
    Calls Tryz.prog 142 #[.slice a l.length cap, .func (.func fid) #[] bx] w
      fun e w' => e = .returned (.tuple #[.int .i64 (eachR err 0 l.length).1, .int .i64 (eachR err 0 l.length).2]) ∧ ∃ k, k ≤ l.length ∧ I k w' ∧ ((eachR err 0 l.length).2 = 0 → k = l.length) := by
  have HRD := Lib.hid hrd
  have HST := Lib.hid hst
  have HAL := Lib.hid hal
  have H0 := Lib.hid h0
  clear hrd hst h0 hal
  go_enter Tryz.func142, Tryz.ntmps142
  go_wp2_with fail
  go_loopw [6, 7, 8, 11] (fun _ _ _ i wr => ∃ k : Nat, k ≤ l.length ∧ i = .int .i64 k ∧ Hid (eachR err 0 l.length = eachR err k (l.length - k)) ∧ Hid (I k wr)) (fun _ _ _ i _ => l.length - (intOf i).toNat)
  case atStart => exact ⟨0, Nat.zero_le _, rfl, Lib.hid rfl, H0⟩
  case round =>
    obtain ⟨k, hk, rfl, hr, hI⟩ := hrel
    by_cases hlt : k < l.length
    · obtain ⟨b, off, rfl, hb, hc⟩ := (HRD.out k _ hlt hI.out).at (k := k) (by omega)
      have c0 : wr.cell? ⟨b, off + k * 2, none⟩ = some (.int .i64 (fg l k).1) := by have := hc (k * 2) (by omega); rw [fracs0] at this; exact this
      have c1 : wr.cell? ⟨b, off + k * 2 + 1, none⟩ = some (.int .i64 (fg l k).2) := by have := hc (k * 2 + 1) (by omega); rw [fracs1] at this; exact this
      clear hc
      by_cases hz : err k = 0
      · have hz' : (err k != 0) = false := by simpa using hz
        have HZ := Lib.hid hz
        clear hz
        go_wp2_with fail
        refine (HST.out k _ hlt (HAL.out _ _ _ hI.out)).mono ?_
        rintro e w' ⟨rfl, hI'⟩
        have hI' := Lib.hid hI'
        go_wp2_with fail
        go_roundw
        case rel => exact ⟨k + 1, by omega, by go_num, hr.out.trans (eachR_step hlt HZ.out), hI'⟩
        case measure => simp [intOf]; omega
      · have hz' : (err k != 0) = true := by simpa using hz
        have HZ := Lib.hid hz
        clear hz
        go_wp2_with fail
        refine (HST.out k _ hlt (HAL.out _ _ _ hI.out)).mono ?_
        rintro e w' ⟨rfl, hI'⟩
        have hI' := Lib.hid hI'
        go_wp2_with fail
        go_ret2
        have HS := eachR_stop hlt HZ.out
        exact ⟨by rw [hr.out, HS]; rfl, k + 1, by omega, hI'.out, fun h => by rw [hr.out, HS] at h; exact absurd h HZ.out⟩
    · have : k = l.length := by omega
      subst this
      go_wp2
      go_ret2
      exact ⟨by rw [hr.out, Nat.sub_self]; rfl, l.length, Nat.le_refl _, hI.out, fun _ => rfl⟩

set_option maxHeartbeats 800000 in
set_option maxRecDepth 100000 in
theorem eachFl_any (l : List (Int × Int × Int)) (a : Option Addr) (cap fid : Nat) (bx : Array Value) (w : World) (err : Nat → Int) (I : Nat → World → Prop) (hlen : l.length ≤ 100000)
    (hcf : ∀ args w, Sem.run Tryz.prog (callFunc fid args) w = .ok (.enter fid args) w)
    (h0 : I 0 w) (hrd : ∀ k w', k < l.length → I k w' → Reads w' a (l.length * 3) (flws l)) (hal : ∀ k w' o, I k w' → I k (w'.alloc o))
    (hst : ∀ k w', k < l.length → I k w' → Calls Tryz.prog fid (#[.int .i64 k, .agg #[.int .i64 (vg l k).1, .int .i64 (vg l k).2.1, .int .i64 (vg l k).2.2]] ++ bx) w' fun e w'' => e = .returned (.int .i64 (err k)) ∧ I (k + 1) w'') :
    Calls Tryz.prog 112 #[.slice a l.length cap, .func (.func fid) #[] bx] w
      fun e w' => e = .returned (.tuple #[.int .i64 (eachR err 0 l.length).1, .int .i64 (eachR err 0 l.length).2]) ∧ ∃ k, k ≤ l.length ∧ I k w' ∧ ((eachR err 0 l.length).2 = 0 → k = l.length) := by
  have HRD := Lib.hid hrd
  have HST := Lib.hid hst
  have HAL := Lib.hid hal
  have H0 := Lib.hid h0
  clear hrd hst h0 hal
  go_enter Tryz.func112, Tryz.ntmps112
  go_wp2_with fail
  go_loopw [6, 7, 8, 11] (fun _ _ _ i wr => ∃ k : Nat, k ≤ l.length ∧ i = .int .i64 k ∧ Hid (eachR err 0 l.length = eachR err k (l.length - k)) ∧ Hid (I k wr)) (fun _ _ _ i _ => l.length - (intOf i).toNat)
  case atStart => exact ⟨0, Nat.zero_le _, rfl, Lib.hid rfl, H0⟩
  case round =>
    obtain ⟨k, hk, rfl, hr, hI⟩ := hrel
    by_cases hlt : k < l.length
    · obtain ⟨b, off, rfl, hb, hc⟩ := (HRD.out k _ hlt hI.out).at (k := k) (by omega)
      have c0 : wr.cell? ⟨b, off + k * 3, none⟩ = some (.int .i64 (vg l k).1) := by have := hc (k * 3) (by omega); rw [flws0] at this; exact this
      have c1 : wr.cell? ⟨b, off + k * 3 + 1, none⟩ = some (.int .i64 (vg l k).2.1) := by have := hc (k * 3 + 1) (by omega); rw [flws1] at this; exact this
      have c2 : wr.cell? ⟨b, off + k * 3 + 1 + 1, none⟩ = some (.int .i64 (vg l k).2.2) := by have := hc (k * 3 + 1 + 1) (by omega); rw [flws2] at this; exact this
      clear hc
      by_cases hz : err k = 0
      · have hz' : (err k != 0) = false := by simpa using hz
        have HZ := Lib.hid hz
        clear hz
        go_wp2_with fail
        refine (HST.out k _ hlt (HAL.out _ _ _ hI.out)).mono ?_
        rintro e w' ⟨rfl, hI'⟩
        have hI' := Lib.hid hI'
        go_wp2_with fail
        go_roundw
        case rel => exact ⟨k + 1, by omega, by go_num, hr.out.trans (eachR_step hlt HZ.out), hI'⟩
        case measure => simp [intOf]; omega
      · have hz' : (err k != 0) = true := by simpa using hz
        have HZ := Lib.hid hz
        clear hz
        go_wp2_with fail
        refine (HST.out k _ hlt (HAL.out _ _ _ hI.out)).mono ?_
        rintro e w' ⟨rfl, hI'⟩
        have hI' := Lib.hid hI'
        go_wp2_with fail
        go_ret2
        have HS := eachR_stop hlt HZ.out
        exact ⟨by rw [hr.out, HS]; rfl, k + 1, by omega, hI'.out, fun h => by rw [hr.out, HS] at h; exact absurd h HZ.out⟩
    · have : k = l.length := by omega
      subst this
      go_wp2
      go_ret2
      exact ⟨by rw [hr.out, Nat.sub_self]; rfl, l.length, Nat.le_refl _, hI.out, fun _ => rfl⟩

end Go.Proofs.YtjfedpblkejmkaaGreat

/-
  The arguments of the statements of chapter 3, opened: valves.
-/
namespace Go.Proofs.YtjfedpblkejmkaaGreat
open Go.ChangeShapes Go.WideShapes Go.ChangeAt Go.RowKit

set_option maxRecDepth 100000 in
theorem flow_of {H : Type} {enc : TypeId × Value → H} {W : World} {base fuel : Nat} {spare : Nat → Bool} {held : Bool} {cs : List Value} {y : DataW H × List MemPlace} (h : DataW.trod enc Tryz.prog W base spare held fuel 90 cs = some y) :
    ∃ p : Int × Int × Int, cs = [.int .i64 p.1, .int .i64 p.2.1, .int .i64 p.2.2] := by
  obtain ⟨y0, y1, y2, m, _, hl, h0, h1, h2⟩ := Go.Deep.trod_struct3 Tryz.underlying90 h
  have hl3 : cs.length = 3 := hl.trans (by kernel_rfl)
  have hc1 : Tryz.prog.cellsOf 3 = 1 := by kernel_rfl
  match cs, hl3 with
  | [a, b, c], _ =>
    simp only [hc1] at h0 h1 h2
    obtain ⟨n0, e0, -, -⟩ := DataW.trod_int Tryz.underlying3 h0
    obtain ⟨n1, e1, -, -⟩ := DataW.trod_int Tryz.underlying3 h1
    obtain ⟨n2, e2, -, -⟩ := DataW.trod_int Tryz.underlying3 h2
    simp at e0 e1 e2
    exact ⟨(n0, n1, n2), by rw [e0, e1, e2]⟩

set_option maxRecDepth 100000 in
theorem open_flows {H : Type} {enc : TypeId × Value → H} {W : World} {v : Value} {d : DataW H} {p : List MemPlace} {base : Nat} (hv : Value.okWide Tryz.prog W .any base 79 v) (h : DataW.Trod enc Tryz.prog W 0 (fun _ => true) true 79 v d p) :
    ∃ (ms : List (Int × Int × Int)) (a : Option Addr) (cap : Nat), v = .slice a ms.length cap ∧ ms.length ≤ maxLen ∧ ms.length ≤ cap ∧ Reads W a (ms.length * 3) (flws ms) := by
  obtain ⟨a0, len0, cap0, rfl⟩ := okWide_slice Tryz.underlying79 hv
  obtain ⟨fuel, hf⟩ := h
  rcases DataW.trod_slice Tryz.underlying79 hf with ⟨hcs, -⟩ | ⟨x, l, c, elems, rest, n, _, hcs, _, hb, hl, hm, hlen, hel, -, -⟩
  · simp [Value.cells] at hcs
    obtain ⟨rfl, rfl, rfl⟩ := hcs
    exact ⟨[], none, 0, rfl, Nat.zero_le _, Nat.zero_le _, .inl rfl⟩
  · simp [Value.cells] at hcs
    obtain ⟨rfl, rfl, rfl⟩ := hcs
    have hc3 : Tryz.prog.cellsOf 90 = 3 := by kernel_rfl
    have hex : ∀ i : Nat, ∃ q : Int × Int × Int, i < len0 → ∀ k, k < 3 → W.cell? (x.add (i * 3) |>.add k) = ([Value.int .i64 q.1, .int .i64 q.2.1, .int .i64 q.2.2] : List Value)[k]? := by
      intro i
      by_cases hi : i < len0
      · have h1 := hel i hi
        rw [hc3, List.getElem?_eq_getElem (by omega)] at h1
        obtain ⟨cs', hcs, hy⟩ := Option.bind_eq_some_iff.1 h1
        obtain ⟨q, rfl⟩ := flow_of hy
        obtain ⟨-, -, h3⟩ := World.cells?_some hcs
        exact ⟨q, fun _ k hk => h3 k hk⟩
      · exact ⟨(0, 0, 0), fun h => absurd h hi⟩
    obtain ⟨f, hf⟩ := Classical.axiomOfChoice hex
    have hml : ((List.range len0).map f).length = len0 := by simp
    refine ⟨(List.range len0).map f, some x, cap0, by rw [hml], by rw [hml]; omega, by rw [hml]; exact hl, ?_⟩
    rw [hml]
    by_cases h0 : len0 = 0
    · exact .inl (by rw [h0])
    · have hc := hf 0 (by omega) 0 (by omega)
      obtain ⟨b, off, spot⟩ := x
      have hspot : spot = none := by simpa [Addr.add] using World.cell?_spot hc
      subst hspot
      have hadd : ∀ i j, ((⟨b, off, none⟩ : Addr).add i).add j = ⟨b, off + (i + j), none⟩ := by intro i j; unfold Addr.add; split <;> split <;> simp_all <;> omega
      refine .inr ⟨b, off, rfl, ?_, fun i hi => ?_⟩
      · have := cell_lt hc; rwa [hadd] at this
      · have h3 := hf (i / 3) (by omega) (i % 3) (Nat.mod_lt _ (by decide))
        rw [hadd, show i / 3 * 3 + i % 3 = i by omega] at h3
        rw [h3]
        have hg : vg ((List.range len0).map f) (i / 3) = f (i / 3) := by
          unfold vg
          rw [List.getD_eq_getElem?_getD, List.getElem?_map, List.getElem?_range (by omega)]
          rfl
        unfold flws
        rw [hg]
        have hcase : i % 3 = 0 ∨ i % 3 = 1 ∨ i % 3 = 2 := by omega
        rcases hcase with h | h | h <;> rw [h] <;> rfl

end Go.Proofs.YtjfedpblkejmkaaGreat

