/-
  Texts of this claim, in their build order: Y5 Q1 P2 Y7.
-/
import Derived.Test.YtmofgejoogikfaaTop34
import Derived.Test.YtmofgejoogikfaaTop37
import Derived.Test.YtmofgejoogikfaaTop14

/-
  The base's Gcd and IsLowest at any numbers; CopyFracs with a row of its own.
-/
namespace Go.Proofs.Ytmofgejoogikfaa
open Go.RowKit

set_option maxHeartbeats 800000 in
set_option maxRecDepth 100000 in
theorem bGcd_pos (x y : Int) (w : World) (hx0 : -9223372036854775808 ≤ x) (hx1 : x ≤ 9223372036854775807) (hy0 : 0 < y) (hy1 : y ≤ 9223372036854775807) :
    Calls Try.prog 60 #[.int .i64 x, .int .i64 y] w fun e w' => e = .returned (.int .i64 (Int.gcd x y : Nat)) ∧ Below w.heap.size w w' := by
  go_enter Try.func60, Try.ntmps60
  go_wp2_with fail
  go_loopw [0, 1] (fun p q wr => ∃ x' y' : Int, p = .int .i64 x' ∧ q = .int .i64 y' ∧ Hid (Int.gcd x' y' = Int.gcd x y) ∧ -9223372036854775808 ≤ x' ∧ x' ≤ 9223372036854775807 ∧ -9223372036854775807 ≤ y' ∧ y' ≤ 9223372036854775807 ∧ Hid (-9223372036854775807 ≤ x' ∨ 0 < y') ∧ Hid (Below w.heap.size w wr)) (fun _ q _ => (intOf q).natAbs)
  case atStart => exact ⟨x, y, rfl, rfl, Lib.hid rfl, hx0, hx1, by omega, hy1, Lib.hid (.inr hy0), Lib.hid (bSelf w)⟩
  case round =>
    obtain ⟨x', y', rfl, rfl, hg, hx0', hx1', hy0', hy1', hc, hb⟩ := hrel
    by_cases h0 : y' = 0
    · subst h0
      have hx2 : -9223372036854775807 ≤ x' := by have := hc.out; omega
      go_wp2_with fail
      have HS : Hid (∀ W, Calls Try.prog 37 #[.int .i64 x'] W fun e w' => e = .returned (.int .i64 (Int.gcd x y : Nat)) ∧ W = w') := Lib.hid (fun W => by
        rw [← hg.out]
        simp only [Int.gcd_zero_right]
        go_enter Try.func37, Try.ntmps37
        go_wp2
        all_goals
          go_ret
          exact ⟨ret_int (by omega), rfl⟩)
      refine (HS.out _).mono ?_
      rintro e w' ⟨rfl, rfl⟩
      go_wp2_with fail
      go_ret
      exact ⟨rfl, hb.out⟩
    · have h0' : (y' == 0) = false := by simpa using h0
      have hcc := hc.out
      have hm : (x'.tmod y').natAbs < y'.natAbs := by rw [Int.natAbs_tmod]; exact Nat.mod_lt _ (by omega)
      have hng : ¬ (x' = -9223372036854775808 ∧ y' = -1) := by omega
      have HM := Lib.hid hm
      clear hm hcc
      go_wp2_with fail
      refine wp_region_quiet_all (fun w' => Below (World.heap wr).size (wr) w') (by kernel_rfl) (by kernel_rfl) (Below.refl _ _).drew ?_
      refine WQ.out ?_
      repeat (first | (refine WQ_no (by rfl) ?_; (simp only [Act.put, List.setIfInBounds_toArray, List.set_cons_zero, List.set_cons_succ])) | (refine WQ_yes (by rfl) ?_; apply Exists.intro; refine ⟨fun w1 hb1 => ?_, ?_⟩; (focus ((skip; have hb1 := Lib.hid hb1; go_simp); (try (go_bits; try go_simp)); (try (rw [if_pos (by omega)]; try go_simp)); (first | done | (fail) | (with_reducible rfl) | exact rfl))); (simp only [Act.put, List.setIfInBounds_toArray, List.set_cons_zero, List.set_cons_succ])))
      refine WQ_nil ?_
      intro w1 hb1
      have hb2 := Lib.hid (bThen hb.out hb1)
      clear hb1
      go_wp2_with fail
      go_roundw
      case rel => have hm := HM.out; exact ⟨y', x'.tmod y', rfl, rfl, Lib.hid (gcd_step.trans hg.out), by omega, by omega, by omega, by omega, Lib.hid (.inl (by omega)), hb2⟩
      case measure => exact HM.out

set_option maxHeartbeats 400000 in
theorem IsLowest_i64 (p : Int × Int) (w : World) (hp : I64 p) :
    Calls Try.prog 15 #[.agg #[.int .i64 p.1, .int .i64 p.2]] w fun e w' => e = .returned (.bool (lowB p.1 p.2)) ∧ Below w.heap.size w w' := by
  obtain ⟨n, m⟩ := p
  obtain ⟨n0, n1, m0, m1⟩ := hp
  dsimp only at n0 n1 m0 m1 ⊢
  have hD := Lib.hid (fun W (h : 0 < m) => bGcd_pos n m W n0 n1 h m1)
  unfold lowB
  obtain ⟨g, hg⟩ : ∃ g : Int, ((Int.gcd n m : Nat) : Int) = g := ⟨_, rfl⟩
  rw [hg] at hD ⊢
  clear hg
  by_cases h : 0 < m
  · have h1 : decide (0 < m) = true := decide_eq_true h
    rw [h1, Bool.true_and]
    go_enter Try.func15, Try.ntmps15
    go_wp2_with fail
    refine (hD.out _ h).mono ?_
    rintro e w1 ⟨rfl, hb⟩
    have HB := Lib.hid (bThen (bAlloc (bSelf w) _) hb)
    clear hb
    go_wp2_with fail
    go_ret
    exact ⟨rfl, HB.out⟩
  · have h1 : decide (0 < m) = false := decide_eq_false h
    rw [h1, Bool.false_and]
    go_enter Try.func15, Try.ntmps15
    go_wp2_with fail
    go_ret
    exact ⟨rfl, bAlloc (bSelf w) _⟩

end Go.Proofs.Ytmofgejoogikfaa

/-
  Chains: what the calls of the statement answer, one form for all inputs.
-/
namespace Go.Proofs.Ytmofgejoogikfaa
open Go.RowKit

abbrev Fl := List (Int × Int)
def mvO (ks fs : List Int) : Option Fl := movO ks fs ks.length 0 (0, 1)
def mvR (ks fs : List Int) : Fl × Int := if (chkC ks fs).2 ≠ 0 then ([], (chkC ks fs).2) else match mvO ks fs with | none => ([], 8) | some l => (l, 0)
def MUPost (x : Fl × Int) (w : World) (e : Ending) (w' : World) : Prop := ∃ a cap, e = .returned (.tuple #[.slice a x.1.length cap, .int .i64 x.2]) ∧ Reads w' a (x.1.length * 2) (fracs x.1) ∧ Below w.heap.size w w'
theorem MovedOf_u (ks fs : List Int) (a1 a2 : Option Addr) (c1 c2 : Nat) (w : World) (h1 : ks.length ≤ 1000) (hc2 : fs.length ≤ c2) (hr1 : Reads w a1 ks.length (ints ks)) (hr2 : Reads w a2 fs.length (ints fs)) :
    Calls Try.prog 10 #[.agg (chV a1 ks.length c1 a2 fs.length c2)] w fun e w' => MUPost (mvR ks fs) w e w' := by
  unfold mvR
  by_cases he : (chkC ks fs).2 = 0
  · rw [if_neg (fun h => h he)]
    refine (MovedOf_ok ks fs a1 a2 c1 c2 w h1 hc2 hr1 hr2 he).mono ?_
    intro e w' hp
    unfold MovPost at hp
    unfold mvO
    cases hm : movO ks fs ks.length 0 (0, 1) with
    | none => rw [hm] at hp; exact ⟨none, 0, hp.1, .inl rfl, hp.2⟩
    | some l =>
      rw [hm] at hp
      obtain ⟨a, cap, h, -, hr, hb, -⟩ := hp
      exact ⟨a, cap, h, hr, hb⟩
  · rw [if_pos he]
    refine (MovedOf_err ks fs a1 a2 c1 c2 w h1 hr1 hr2 he).mono ?_
    rintro e w' ⟨rfl, hb⟩
    exact ⟨none, 0, rfl, .inl rfl, hb⟩

def hvR (ks fs : List Int) (node : Int) : (Fl × Fl × Int) × Int :=
  if ndE ks fs node ≠ 0 then (([], [], 0), ndE ks fs node) else match mvO ks fs with | none => (([], [], 0), 8) | some l => ((l.take (node.toNat + 1), l.drop (node.toNat + 1), (fs.drop (node.toNat + 1)).sum), 0)
def HUPost (x : (Fl × Fl × Int) × Int) (w : World) (e : Ending) (w' : World) : Prop :=
  ∃ a1 c1 a2 c2, e = .returned (.tuple #[.agg (hvV a1 x.1.1.length c1 a2 x.1.2.1.length c2 x.1.2.2), .int .i64 x.2]) ∧ Reads w' a1 (x.1.1.length * 2) (fracs x.1.1) ∧ Reads w' a2 (x.1.2.1.length * 2) (fracs x.1.2.1) ∧ Below w.heap.size w w'
theorem HalvesOf_u (ks fs : List Int) (node : Int) (a1 a2 : Option Addr) (c1 c2 : Nat) (w : World) (h1 : ks.length ≤ 1000) (hc2 : fs.length ≤ c2) (hr1 : Reads w a1 ks.length (ints ks)) (hr2 : Reads w a2 fs.length (ints fs)) :
    Calls Try.prog 13 #[.agg (chV a1 ks.length c1 a2 fs.length c2), .int .i64 node] w fun e w' => HUPost (hvR ks fs node) w e w' := by
  unfold hvR
  by_cases he : ndE ks fs node = 0
  · rw [if_neg (fun h => h he)]
    obtain ⟨-, hp0, -⟩ := ndE_zero he
    obtain ⟨nd, rfl⟩ : ∃ nd : Nat, node = nd := ⟨node.toNat, by omega⟩
    refine (HalvesOf_ok ks fs nd a1 a2 c1 c2 w h1 hc2 hr1 hr2 he).mono ?_
    intro e w' hp
    unfold HOPost at hp
    unfold mvO
    rw [Int.toNat_natCast]
    cases hm : movO ks fs ks.length 0 (0, 1) with
    | none => rw [hm] at hp; exact ⟨none, 0, none, 0, hp.1, .inl rfl, .inl rfl, hp.2⟩
    | some l =>
      rw [hm] at hp
      obtain ⟨b1, d1, b2, d2, h, -, -, h3, h4, hb, -, -⟩ := hp
      exact ⟨b1, d1, b2, d2, h, h3, h4, hb⟩
  · rw [if_pos he]
    refine (HalvesOf_err ks fs node a1 a2 c1 c2 w h1 hr1 hr2 he).mono ?_
    rintro e w' ⟨rfl, hb⟩
    exact ⟨none, 0, none, 0, rfl, .inl rfl, .inl rfl, hb⟩

theorem node_ok {ks fs : List Int} {nd : Nat} (h : (chkC ks fs).2 = 0) (hn : (decide ((0 : Int) ≤ nd) && decide ((nd : Int) ≤ (ks.length : Int) - 1)) = true) : ndE ks fs nd = 0 := by
  unfold ndE; rw [h, hn]; simp [firstE, unl]

end Go.Proofs.Ytmofgejoogikfaa

/-
  Two halves: the plain laws of the theorem of chains.
-/
namespace Go.Proofs.Ytmofgejoogikfaa
open Go.RowKit

/-- The displacements, over any common multiple. -/
theorem refO_get {ks fs : List Int} {L : Int} : ∀ {n k : Nat} {l : List (Int × Int)}, refO ks fs L n k = some l → ∀ j, j < n → fg l j = fr (refN ks fs L (k + j + 1)) L ∧ fits (fg l j) = true
  | 0, _, _, _, j, hj => by omega
  | n + 1, k, l, h, j, hj => by
    unfold refO at h
    split at h
    · rename_i hf
      cases hr : refO ks fs L n (k + 1) with
      | none => rw [hr] at h; cases h
      | some m =>
        rw [hr] at h
        have e : l = fr (refN ks fs L (k + 1)) L :: m := by simpa using h.symm
        subst e
        match j with
        | 0 => exact ⟨rfl, hf⟩
        | j + 1 =>
          have := refO_get hr j (by omega)
          rw [show k + (j + 1) + 1 = k + 1 + j + 1 by omega]
          exact this
    · cases h
theorem mvO_any {ks fs : List Int} (hok : ChOk ks fs) {L : Int} (hL : 0 < L) (hd : ∀ k, k < ks.length → gi ks k ∣ L) : mvO ks fs = refO ks fs L ks.length 0 :=
  moved_eq hok.len hok.k1 hL hd ks.length 0 (0, 1) (by omega) (show (0 : Int) < 1 by decide) (by simp [refN])
theorem sprF_sum {fs : List Int} {k : Nat} (h : k < fs.length) : sprF fs k = (fs.drop k).sum := by
  unfold sprF
  rw [upTo_sum (by omega), ← drop_sum h]
/-- What is so of true displacements. -/
structure Mvd (ks fs : List Int) (l : List (Int × Int)) (L : Int) : Prop where
  ok : ChOk ks fs
  len : l.length = ks.length
  L0 : 0 < L
  div : ∀ k, k < ks.length → gi ks k ∣ L
  at' : ∀ k, k < ks.length → fg l k = fr (refN ks fs L (k + 1)) L
  fit : ∀ k, k < ks.length → fits (fg l k) = true
theorem mvd_of {ks fs : List Int} {l : List (Int × Int)} (hok : ChOk ks fs) (h : mvO ks fs = some l) : Mvd ks fs l (lcmP ks ks.length) := by
  obtain ⟨h1, -, h3⟩ := lcm_bd hok (Nat.le_refl ks.length)
  have e := mvO_any hok h1 h3
  rw [h] at e
  have hg := refO_get e.symm
  exact ⟨hok, movO_len h, h1, h3, fun k hk => by have := (hg k hk).1; rwa [Nat.zero_add] at this, fun k hk => (hg k hk).2⟩
theorem Mvd.fq {ks fs : List Int} {l : List (Int × Int)} {L : Int} (h : Mvd ks fs l L) {k : Nat} (hk : k < ks.length) : Fq (fg l k) (refN ks fs L (k + 1)) L := by
  rw [h.at' k hk]; exact Fq.of h.L0
theorem Mvd.fqB {ks fs : List Int} {l : List (Int × Int)} {L : Int} (h : Mvd ks fs l L) {k : Nat} (hk : k < ks.length) : Fq (nbB l k) (refN ks fs L k) L := by
  unfold nbB
  split
  · rename_i h0
    have := h.fq (k := k - 1) (by omega)
    rwa [show k - 1 + 1 = k by omega] at this
  · have : k = 0 := by omega
    subst this
    exact ⟨by decide, h.L0, by simp [refN]⟩
theorem fr_low (n : Int) {m : Int} (hm : 0 < m) : Int.gcd (fr n m).1 (fr n m).2 = 1 := by
  obtain ⟨g, a, b, hg, hb, h1, h2, h3, h4⟩ := fr_ex (n := n) hm
  rw [h3]
  dsimp only
  have e : Int.gcd n m = g.natAbs * Int.gcd a b := by rw [h1, h2, Int.gcd_mul_left]
  have hgn : (g.natAbs : Int) = g := by omega
  have h5 : Int.gcd n m = g.natAbs := by omega
  have h6 : g.natAbs * Int.gcd a b = g.natAbs * 1 := by omega
  exact Nat.eq_of_mul_eq_mul_left (by omega) h6
theorem fr_id {n m : Int} (h : Int.gcd n m = 1) : fr n m = (n, m) := by
  unfold fr; rw [h]; simp
theorem lowB_fr (n : Int) {m : Int} (hm : 0 < m) : lowB (fr n m).1 (fr n m).2 = true := by
  unfold lowB
  rw [fr_low n hm, decide_eq_true (fr_pos hm)]
  rfl
theorem Mvd.low {ks fs : List Int} {l : List (Int × Int)} {L : Int} (h : Mvd ks fs l L) {k : Nat} (hk : k < ks.length) : lowB (fg l k).1 (fg l k).2 = true := by
  rw [h.at' k hk]; exact lowB_fr _ h.L0
theorem Mvd.frE {ks fs : List Int} {l : List (Int × Int)} {L : Int} (h : Mvd ks fs l L) {k : Nat} (hk : k < ks.length) : frE (fg l k) = 0 := by
  have h1 := h.low hk
  have h2 := h.fit k hk
  unfold Go.Proofs.Ytmofgejoogikfaa.frE
  unfold fits at h2
  rw [h1, h2]
  simp [firstE, unl]
theorem Mvd.sm {ks fs : List Int} {l : List (Int × Int)} {L : Int} (h : Mvd ks fs l L) (k : Nat) (hk : k < l.length) : SmF (fg l k) := frE_zero (h.frE (by rw [← h.len]; exact hk))
/-- The balance of a node at true displacements. -/
theorem Mvd.bal {ks fs : List Int} {l : List (Int × Int)} {L : Int} (h : Mvd ks fs l L) {nd k : Nat} (hk : k < ks.length) :
    balS (nbB l k) (fg l k) (nbA l nd k) (gi ks k) (nbU ks nd k) (nbF fs ((fs.drop (nd + 1)).sum) nd k) = 0 := by
  have hb := h.fqB hk
  have ho := h.fq hk
  have hfl := h.ok.len
  have hn : refN ks fs L (k + 1) = refN ks fs L k + (fs.drop k).sum * L.tdiv (gi ks k) := by
    have : refN ks fs L (k + 1) = refN ks fs L k + sprF fs k * L.tdiv (gi ks k) := rfl
    rw [this, sprF_sum (by omega)]
  have ht := tdiv_ex (by have := (h.ok.k1 k hk).1; omega) (h.div k hk)
  obtain ⟨b0, -, be⟩ := hb
  obtain ⟨o0, -, oe⟩ := ho
  have hL := h.L0
  have hdk := drop_sum (fs := fs) (n := k) (by omega)
  unfold nbA nbU nbF
  have key : ∀ (S : Int), (fs.drop k).sum = S → gi ks k * ((fg l k).1 * (nbB l k).2 - (nbB l k).1 * (fg l k).2) = S * ((fg l k).2 * (nbB l k).2) := fun S hS => by
    rw [hS] at hn
    refine Int.eq_of_mul_eq_mul_left (a := L) (by omega) ?_
    generalize L.tdiv (gi ks k) = t at *
    generalize gi ks k = K at *
    generalize refN ks fs L (k + 1) = N1 at *
    generalize refN ks fs L k = N0 at *
    generalize fg l k = o at *
    generalize nbB l k = b at *
    grind
  by_cases hkn : k = nd
  · rw [if_pos hkn, if_pos hkn, if_pos hkn, ← hkn, ← hdk]
    have := key _ rfl
    unfold balS
    dsimp only
    grind
  · rw [if_neg hkn, if_neg hkn, if_neg hkn]
    by_cases hup : k + 1 < ks.length
    · rw [if_pos (by rw [h.len]; exact hup), if_pos hup]
      have ha := h.fq hup
      obtain ⟨a0, -, ae⟩ := ha
      have hn2 : refN ks fs L (k + 1 + 1) = refN ks fs L (k + 1) + (fs.drop (k + 1)).sum * L.tdiv (gi ks (k + 1)) := by
        have : refN ks fs L (k + 1 + 1) = refN ks fs L (k + 1) + sprF fs (k + 1) * L.tdiv (gi ks (k + 1)) := rfl
        rw [this, sprF_sum (by omega)]
      have ht2 := tdiv_ex (by have := (h.ok.k1 (k + 1) hup).1; omega) (h.div (k + 1) hup)
      have key2 : gi ks (k + 1) * ((fg l (k + 1)).1 * (fg l k).2 - (fg l k).1 * (fg l (k + 1)).2) = (fs.drop (k + 1)).sum * ((fg l (k + 1)).2 * (fg l k).2) := by
        refine Int.eq_of_mul_eq_mul_left (a := L) (by omega) ?_
        generalize L.tdiv (gi ks (k + 1)) = t at *
        generalize gi ks (k + 1) = K at *
        generalize refN ks fs L (k + 1 + 1) = N1 at *
        generalize refN ks fs L (k + 1) = N0 at *
        generalize fg l k = o at *
        generalize fg l (k + 1) = a at *
        grind
      have k1 := key _ hdk
      unfold balS
      generalize (fs.drop (k + 1)).sum = S2 at *
      generalize gi ks (k + 1) = U at *
      generalize gi ks k = K at *
      generalize gi fs k = f at *
      refine Int.eq_of_mul_eq_mul_left (a := (fg l k).2) (by omega) ?_
      generalize fg l k = o at *
      generalize fg l (k + 1) = a at *
      generalize nbB l k = b at *
      clear oe ae be hn hn2 ht ht2 hdk key
      grind
    · rw [if_neg (by rw [h.len]; exact hup), if_neg hup]
      have e0 : (fs.drop (k + 1)).sum = 0 := by rw [List.drop_of_length_le (by omega)]; rfl
      rw [e0, Int.add_zero] at hdk
      have := key _ hdk
      unfold balS
      dsimp only
      grind

end Go.Proofs.Ytmofgejoogikfaa

/-
  The reference's HalvesErr.
-/
namespace Go.Proofs.Ytmofgejoogikfaa
open Go.RowKit

theorem frE_2 {p : Int × Int} (h : lowB p.1 p.2 = true) (h2 : ((decide (-1000000000 ≤ p.1) && decide (p.1 ≤ 1000000000)) && decide (p.2 ≤ 1000000000)) = false) : frE p = 2 := by
  unfold frE; rw [h, h2]; simp [firstE, unl]
theorem frE_0 {p : Int × Int} (h : lowB p.1 p.2 = true) (h2 : ((decide (-1000000000 ≤ p.1) && decide (p.1 ≤ 1000000000)) && decide (p.2 ≤ 1000000000)) = true) : frE p = 0 := by
  unfold frE; rw [h, h2]; simp [firstE, unl]

end Go.Proofs.Ytmofgejoogikfaa

