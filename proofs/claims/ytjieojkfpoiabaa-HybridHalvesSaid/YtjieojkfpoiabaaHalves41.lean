/-
  Texts of this claim, in their build order: Q1 P2 Y6 Y7 P3.
-/
import Derived.Test.YtjieojkfpoiabaaHalves39
import Derived.Test.YtjieojkfpoiabaaHalves19
import Derived.Test.YtjieojkfpoiabaaHalves40

/-
  Chains: what the calls of the statement answer, one form for all inputs.
-/
namespace Go.Proofs.Ytjieojkfpoiabaa
open Go.RowKit

abbrev Fl := List (Int × Int)
def mvO (ks fs : List Int) : Option Fl := movO ks fs ks.length 0 (0, 1)
def mvR (ks fs : List Int) : Fl × Int := if (chkC ks fs).2 ≠ 0 then ([], (chkC ks fs).2) else match mvO ks fs with | none => ([], 8) | some l => (l, 0)
def MUPost (x : Fl × Int) (w : World) (e : Ending) (w' : World) : Prop := ∃ a cap, e = .returned (.tuple #[.slice a x.1.length cap, .int .i64 x.2]) ∧ Reads w' a (x.1.length * 2) (fracs x.1) ∧ Below w.heap.size w w'
theorem MovedOf_u (ks fs : List Int) (a1 a2 : Option Addr) (c1 c2 : Nat) (w : World) (h1 : ks.length ≤ 1000) (hc2 : fs.length ≤ c2) (hr1 : Reads w a1 ks.length (ints ks)) (hr2 : Reads w a2 fs.length (ints fs)) :
    Calls Try.prog 48 #[.agg (chV a1 ks.length c1 a2 fs.length c2)] w fun e w' => MUPost (mvR ks fs) w e w' := by
  unfold mvR
  by_cases he : (chkC ks fs).2 = 0
  · rw [if_neg (fun h => h he)]
    refine (MovedOf_ok ks fs a1 a2 c1 c2 w h1 hc2 hr1 hr2 he).mono ?_
    intro e w' hp
    unfold MovPost at hp
    unfold mvO
    cases hm : movO ks fs ks.length 0 (0, 1) with
    | none => rw [hm] at hp; exact ⟨none, 0, hp.1, .inl rfl, hp.2⟩
    | some l =>
      rw [hm] at hp
      obtain ⟨a, cap, h, -, hr, hb, -⟩ := hp
      exact ⟨a, cap, h, hr, hb⟩
  · rw [if_pos he]
    refine (MovedOf_err ks fs a1 a2 c1 c2 w h1 hr1 hr2 he).mono ?_
    rintro e w' ⟨rfl, hb⟩
    exact ⟨none, 0, rfl, .inl rfl, hb⟩

def hvR (ks fs : List Int) (node : Int) : (Fl × Fl × Int) × Int :=
  if ndE ks fs node ≠ 0 then (([], [], 0), ndE ks fs node) else match mvO ks fs with | none => (([], [], 0), 8) | some l => ((l.take (node.toNat + 1), l.drop (node.toNat + 1), (fs.drop (node.toNat + 1)).sum), 0)
def HUPost (x : (Fl × Fl × Int) × Int) (w : World) (e : Ending) (w' : World) : Prop :=
  ∃ a1 c1 a2 c2, e = .returned (.tuple #[.agg (hvV a1 x.1.1.length c1 a2 x.1.2.1.length c2 x.1.2.2), .int .i64 x.2]) ∧ Reads w' a1 (x.1.1.length * 2) (fracs x.1.1) ∧ Reads w' a2 (x.1.2.1.length * 2) (fracs x.1.2.1) ∧ Below w.heap.size w w'
theorem HalvesOf_u (ks fs : List Int) (node : Int) (a1 a2 : Option Addr) (c1 c2 : Nat) (w : World) (h1 : ks.length ≤ 1000) (hc2 : fs.length ≤ c2) (hr1 : Reads w a1 ks.length (ints ks)) (hr2 : Reads w a2 fs.length (ints fs)) :
    Calls Try.prog 49 #[.agg (chV a1 ks.length c1 a2 fs.length c2), .int .i64 node] w fun e w' => HUPost (hvR ks fs node) w e w' := by
  unfold hvR
  by_cases he : ndE ks fs node = 0
  · rw [if_neg (fun h => h he)]
    obtain ⟨-, hp0, -⟩ := ndE_zero he
    obtain ⟨nd, rfl⟩ : ∃ nd : Nat, node = nd := ⟨node.toNat, by omega⟩
    refine (HalvesOf_ok ks fs nd a1 a2 c1 c2 w h1 hc2 hr1 hr2 he).mono ?_
    intro e w' hp
    unfold HOPost at hp
    unfold mvO
    rw [Int.toNat_natCast]
    cases hm : movO ks fs ks.length 0 (0, 1) with
    | none => rw [hm] at hp; exact ⟨none, 0, none, 0, hp.1, .inl rfl, .inl rfl, hp.2⟩
    | some l =>
      rw [hm] at hp
      obtain ⟨b1, d1, b2, d2, h, -, -, h3, h4, hb, -, -⟩ := hp
      exact ⟨b1, d1, b2, d2, h, h3, h4, hb⟩
  · rw [if_pos he]
    refine (HalvesOf_err ks fs node a1 a2 c1 c2 w h1 hr1 hr2 he).mono ?_
    rintro e w' ⟨rfl, hb⟩
    exact ⟨none, 0, none, 0, rfl, .inl rfl, .inl rfl, hb⟩

theorem node_ok {ks fs : List Int} {nd : Nat} (h : (chkC ks fs).2 = 0) (hn : (decide ((0 : Int) ≤ nd) && decide ((nd : Int) ≤ (ks.length : Int) - 1)) = true) : ndE ks fs nd = 0 := by
  unfold ndE; rw [h, hn]; simp [firstE, unl]

end Go.Proofs.Ytjieojkfpoiabaa

/-
  Two halves: the plain laws of the theorem of chains.
-/
namespace Go.Proofs.Ytjieojkfpoiabaa
open Go.RowKit

/-- The displacements, over any common multiple. -/
theorem refO_get {ks fs : List Int} {L : Int} : ∀ {n k : Nat} {l : List (Int × Int)}, refO ks fs L n k = some l → ∀ j, j < n → fg l j = fr (refN ks fs L (k + j + 1)) L ∧ fits (fg l j) = true
  | 0, _, _, _, j, hj => by omega
  | n + 1, k, l, h, j, hj => by
    unfold refO at h
    split at h
    · rename_i hf
      cases hr : refO ks fs L n (k + 1) with
      | none => rw [hr] at h; cases h
      | some m =>
        rw [hr] at h
        have e : l = fr (refN ks fs L (k + 1)) L :: m := by simpa using h.symm
        subst e
        match j with
        | 0 => exact ⟨rfl, hf⟩
        | j + 1 =>
          have := refO_get hr j (by omega)
          rw [show k + (j + 1) + 1 = k + 1 + j + 1 by omega]
          exact this
    · cases h
theorem mvO_any {ks fs : List Int} (hok : ChOk ks fs) {L : Int} (hL : 0 < L) (hd : ∀ k, k < ks.length → gi ks k ∣ L) : mvO ks fs = refO ks fs L ks.length 0 :=
  moved_eq hok.len hok.k1 hL hd ks.length 0 (0, 1) (by omega) (show (0 : Int) < 1 by decide) (by simp [refN])
theorem sprF_sum {fs : List Int} {k : Nat} (h : k < fs.length) : sprF fs k = (fs.drop k).sum := by
  unfold sprF
  rw [upTo_sum (by omega), ← drop_sum h]
/-- What is so of true displacements. -/
structure Mvd (ks fs : List Int) (l : List (Int × Int)) (L : Int) : Prop where
  ok : ChOk ks fs
  len : l.length = ks.length
  L0 : 0 < L
  div : ∀ k, k < ks.length → gi ks k ∣ L
  at' : ∀ k, k < ks.length → fg l k = fr (refN ks fs L (k + 1)) L
  fit : ∀ k, k < ks.length → fits (fg l k) = true
theorem mvd_of {ks fs : List Int} {l : List (Int × Int)} (hok : ChOk ks fs) (h : mvO ks fs = some l) : Mvd ks fs l (lcmP ks ks.length) := by
  obtain ⟨h1, -, h3⟩ := lcm_bd hok (Nat.le_refl ks.length)
  have e := mvO_any hok h1 h3
  rw [h] at e
  have hg := refO_get e.symm
  exact ⟨hok, movO_len h, h1, h3, fun k hk => by have := (hg k hk).1; rwa [Nat.zero_add] at this, fun k hk => (hg k hk).2⟩
theorem Mvd.fq {ks fs : List Int} {l : List (Int × Int)} {L : Int} (h : Mvd ks fs l L) {k : Nat} (hk : k < ks.length) : Fq (fg l k) (refN ks fs L (k + 1)) L := by
  rw [h.at' k hk]; exact Fq.of h.L0
theorem Mvd.fqB {ks fs : List Int} {l : List (Int × Int)} {L : Int} (h : Mvd ks fs l L) {k : Nat} (hk : k < ks.length) : Fq (nbB l k) (refN ks fs L k) L := by
  unfold nbB
  split
  · rename_i h0
    have := h.fq (k := k - 1) (by omega)
    rwa [show k - 1 + 1 = k by omega] at this
  · have : k = 0 := by omega
    subst this
    exact ⟨by decide, h.L0, by simp [refN]⟩
theorem fr_low (n : Int) {m : Int} (hm : 0 < m) : Int.gcd (fr n m).1 (fr n m).2 = 1 := by
  obtain ⟨g, a, b, hg, hb, h1, h2, h3, h4⟩ := fr_ex (n := n) hm
  rw [h3]
  dsimp only
  have e : Int.gcd n m = g.natAbs * Int.gcd a b := by rw [h1, h2, Int.gcd_mul_left]
  have hgn : (g.natAbs : Int) = g := by omega
  have h5 : Int.gcd n m = g.natAbs := by omega
  have h6 : g.natAbs * Int.gcd a b = g.natAbs * 1 := by omega
  exact Nat.eq_of_mul_eq_mul_left (by omega) h6
theorem fr_id {n m : Int} (h : Int.gcd n m = 1) : fr n m = (n, m) := by
  unfold fr; rw [h]; simp
theorem lowB_fr (n : Int) {m : Int} (hm : 0 < m) : lowB (fr n m).1 (fr n m).2 = true := by
  unfold lowB
  rw [fr_low n hm, decide_eq_true (fr_pos hm)]
  rfl
theorem Mvd.low {ks fs : List Int} {l : List (Int × Int)} {L : Int} (h : Mvd ks fs l L) {k : Nat} (hk : k < ks.length) : lowB (fg l k).1 (fg l k).2 = true := by
  rw [h.at' k hk]; exact lowB_fr _ h.L0
theorem Mvd.frE {ks fs : List Int} {l : List (Int × Int)} {L : Int} (h : Mvd ks fs l L) {k : Nat} (hk : k < ks.length) : frE (fg l k) = 0 := by
  have h1 := h.low hk
  have h2 := h.fit k hk
  unfold Go.Proofs.Ytjieojkfpoiabaa.frE
  unfold fits at h2
  rw [h1, h2]
  simp [firstE, unl]
theorem Mvd.sm {ks fs : List Int} {l : List (Int × Int)} {L : Int} (h : Mvd ks fs l L) (k : Nat) (hk : k < l.length) : SmF (fg l k) := frE_zero (h.frE (by rw [← h.len]; exact hk))
/-- The balance of a node at true displacements. -/
theorem Mvd.bal {ks fs : List Int} {l : List (Int × Int)} {L : Int} (h : Mvd ks fs l L) {nd k : Nat} (hk : k < ks.length) :
    balS (nbB l k) (fg l k) (nbA l nd k) (gi ks k) (nbU ks nd k) (nbF fs ((fs.drop (nd + 1)).sum) nd k) = 0 := by
  have hb := h.fqB hk
  have ho := h.fq hk
  have hfl := h.ok.len
  have hn : refN ks fs L (k + 1) = refN ks fs L k + (fs.drop k).sum * L.tdiv (gi ks k) := by
    have : refN ks fs L (k + 1) = refN ks fs L k + sprF fs k * L.tdiv (gi ks k) := rfl
    rw [this, sprF_sum (by omega)]
  have ht := tdiv_ex (by have := (h.ok.k1 k hk).1; omega) (h.div k hk)
  obtain ⟨b0, -, be⟩ := hb
  obtain ⟨o0, -, oe⟩ := ho
  have hL := h.L0
  have hdk := drop_sum (fs := fs) (n := k) (by omega)
  unfold nbA nbU nbF
  have key : ∀ (S : Int), (fs.drop k).sum = S → gi ks k * ((fg l k).1 * (nbB l k).2 - (nbB l k).1 * (fg l k).2) = S * ((fg l k).2 * (nbB l k).2) := fun S hS => by
    rw [hS] at hn
    refine Int.eq_of_mul_eq_mul_left (a := L) (by omega) ?_
    generalize L.tdiv (gi ks k) = t at *
    generalize gi ks k = K at *
    generalize refN ks fs L (k + 1) = N1 at *
    generalize refN ks fs L k = N0 at *
    generalize fg l k = o at *
    generalize nbB l k = b at *
    grind
  by_cases hkn : k = nd
  · rw [if_pos hkn, if_pos hkn, if_pos hkn, ← hkn, ← hdk]
    have := key _ rfl
    unfold balS
    dsimp only
    grind
  · rw [if_neg hkn, if_neg hkn, if_neg hkn]
    by_cases hup : k + 1 < ks.length
    · rw [if_pos (by rw [h.len]; exact hup), if_pos hup]
      have ha := h.fq hup
      obtain ⟨a0, -, ae⟩ := ha
      have hn2 : refN ks fs L (k + 1 + 1) = refN ks fs L (k + 1) + (fs.drop (k + 1)).sum * L.tdiv (gi ks (k + 1)) := by
        have : refN ks fs L (k + 1 + 1) = refN ks fs L (k + 1) + sprF fs (k + 1) * L.tdiv (gi ks (k + 1)) := rfl
        rw [this, sprF_sum (by omega)]
      have ht2 := tdiv_ex (by have := (h.ok.k1 (k + 1) hup).1; omega) (h.div (k + 1) hup)
      have key2 : gi ks (k + 1) * ((fg l (k + 1)).1 * (fg l k).2 - (fg l k).1 * (fg l (k + 1)).2) = (fs.drop (k + 1)).sum * ((fg l (k + 1)).2 * (fg l k).2) := by
        refine Int.eq_of_mul_eq_mul_left (a := L) (by omega) ?_
        generalize L.tdiv (gi ks (k + 1)) = t at *
        generalize gi ks (k + 1) = K at *
        generalize refN ks fs L (k + 1 + 1) = N1 at *
        generalize refN ks fs L (k + 1) = N0 at *
        generalize fg l k = o at *
        generalize fg l (k + 1) = a at *
        grind
      have k1 := key _ hdk
      unfold balS
      generalize (fs.drop (k + 1)).sum = S2 at *
      generalize gi ks (k + 1) = U at *
      generalize gi ks k = K at *
      generalize gi fs k = f at *
      refine Int.eq_of_mul_eq_mul_left (a := (fg l k).2) (by omega) ?_
      generalize fg l k = o at *
      generalize fg l (k + 1) = a at *
      generalize nbB l k = b at *
      clear oe ae be hn hn2 ht ht2 hdk key
      grind
    · rw [if_neg (by rw [h.len]; exact hup), if_neg hup]
      have e0 : (fs.drop (k + 1)).sum = 0 := by rw [List.drop_of_length_le (by omega)]; rfl
      rw [e0, Int.add_zero] at hdk
      have := key _ hdk
      unfold balS
      dsimp only
      grind

end Go.Proofs.Ytjieojkfpoiabaa

/-
  A node's balance: the reference's equation of fractions is the program's sum of products.
-/
namespace Go.Proofs.Ytjieojkfpoiabaa
open Go.RowKit

def cmpQ (p q : Int × Int) : Int := (p.1 * q.2 - q.1 * p.2).sign
theorem dg_fr1 {n m : Int} {k : Nat} (h : (dg n).length ≤ k) : (dg (fr n m).1).length ≤ k := dg_le (fr_bd1 (Nat.le_refl _)) h
theorem dg_fr2 {n m : Int} {k : Nat} (h : (dg m).length ≤ k) : (dg (fr n m).2).length ≤ k := dg_le (fr_bd2 (Nat.le_refl _)) h
end Go.Proofs.Ytjieojkfpoiabaa

/-
  The reference's HalvesErr.
-/
namespace Go.Proofs.Ytjieojkfpoiabaa
open Go.RowKit

theorem frE_2 {p : Int × Int} (h : lowB p.1 p.2 = true) (h2 : ((decide (-1000000000 ≤ p.1) && decide (p.1 ≤ 1000000000)) && decide (p.2 ≤ 1000000000)) = false) : frE p = 2 := by
  unfold frE; rw [h, h2]; simp [firstE, unl]
theorem frE_0 {p : Int × Int} (h : lowB p.1 p.2 = true) (h2 : ((decide (-1000000000 ≤ p.1) && decide (p.1 ≤ 1000000000)) && decide (p.2 ≤ 1000000000)) = true) : frE p = 0 := by
  unfold frE; rw [h, h2]; simp [firstE, unl]

end Go.Proofs.Ytjieojkfpoiabaa

/-
  Two halves: further plain laws: the chain backwards, one displacement changed, the upper half alone, doubled forces.
-/
namespace Go.Proofs.Ytjieojkfpoiabaa
open Go.RowKit

theorem gi_mem {l : List Int} {k : Nat} (h : k < l.length) : gi l k ∈ l := by rw [gi_lt h]; exact List.getElem_mem h
theorem mem_gi {l : List Int} {x : Int} (h : x ∈ l) : ∃ k, k < l.length ∧ gi l k = x := by
  obtain ⟨k, hk, e⟩ := List.mem_iff_getElem.1 h
  exact ⟨k, hk, by rw [gi_lt hk]; exact e⟩
theorem rev_all {l : List Int} {P : Int → Prop} (h : ∀ k, k < l.length → P (gi l k)) (k : Nat) (hk : k < l.reverse.length) : P (gi l.reverse k) := by
  have hm := List.mem_reverse.1 (gi_mem hk)
  obtain ⟨j, hj, e⟩ := mem_gi hm
  rw [← e]; exact h j hj
theorem refS_take (ks : List Int) (L : Int) : ∀ n, n ≤ ks.length → refS ks L n = ((ks.take n).map (fun k => L.tdiv k)).sum
  | 0, _ => by simp [refS]
  | n + 1, h => by
    unfold refS
    rw [refS_take ks L n (by omega), gi_take _ n (by omega), List.map_append, List.sum_append]
    simp
theorem refS_all (ks : List Int) (L : Int) : refS ks L ks.length = (ks.map (fun k => L.tdiv k)).sum := by
  rw [refS_take ks L _ (Nat.le_refl _), List.take_length]
theorem ok_rev {ks fs : List Int} (h : ChOk ks fs) : ChOk ks.reverse fs.reverse :=
  ⟨by simp [h.len], by simp [h.few], rev_all (l := ks) (P := fun x => 1 ≤ x ∧ x ≤ 20) h.k1, fun k hk => rev_all (l := fs) (P := fun x => -1000 ≤ x ∧ x ≤ 1000) (fun j hj => h.f1 j (by rw [← h.len]; exact hj)) k (by rw [List.length_reverse] at hk ⊢; rw [h.len]; exact hk)⟩
/-- The chain backwards is as stiff. -/
theorem flex_rev {ks fs : List Int} (h : ChOk ks fs) : flexP ks.reverse ks.reverse.length = flexP ks ks.length := by
  obtain ⟨h1, -, h3⟩ := lcm_bd h (Nat.le_refl ks.length)
  rw [flex_eq h.k1 h1 h3 ks.length (Nat.le_refl _), flex_eq (ok_rev h).k1 h1 (rev_all (l := ks) (P := fun x => x ∣ lcmP ks ks.length) h3) ks.reverse.length (Nat.le_refl _), refS_all, refS_all, List.map_reverse, List.sum_reverse]
theorem flex_pos {ks fs : List Int} (h : ChOk ks fs) (hn : 0 < ks.length) : 0 < (flexP ks ks.length).1 ∧ 0 < (flexP ks ks.length).2 ∧ Int.gcd (flexP ks ks.length).2 (flexP ks ks.length).1 = 1 := by
  obtain ⟨h1, -, h3⟩ := lcm_bd h (Nat.le_refl ks.length)
  have e := flex_eq h.k1 h1 h3 ks.length (Nat.le_refl _)
  have hs := (refS_bd (fun k hk => (h.k1 k hk).1) h1 h3 ks.length (Nat.le_refl _)).1
  have hs0 : 0 < refS ks (lcmP ks ks.length) ks.length := by omega
  rw [e]
  have h2 := fr_pos (n := lcmP ks ks.length) hs0
  rw [fr_swap] at h2
  exact ⟨h2, fr_pos h1, by rw [Int.gcd_comm]; exact fr_low _ h1⟩
theorem refS_ge {ks : List Int} {L : Int} (h : ∀ k, k < ks.length → 1 ≤ gi ks k) (hL : 0 < L) (hd : ∀ k, k < ks.length → gi ks k ∣ L) {i : Nat} : ∀ n, n ≤ ks.length → i < n → L.tdiv (gi ks i) ≤ refS ks L n
  | 0, _, hi => by omega
  | n + 1, hn, hi => by
    have h0 := (refS_bd h hL hd n (by omega)).1
    have h1 := tdivL_bd hL (h n (by omega)) (hd n (by omega))
    have e : refS ks L (n + 1) = refS ks L n + L.tdiv (gi ks n) := rfl
    rw [e]
    by_cases hin : i = n
    · rw [hin]; omega
    · have := refS_ge h hL hd n (by omega) (by omega : i < n)
      omega
/-- The whole is at most as stiff as each spring. -/
theorem flex_le {ks fs : List Int} (h : ChOk ks fs) {i : Nat} (hi : i < ks.length) : (flexP ks ks.length).2 ≤ gi ks i * (flexP ks ks.length).1 := by
  obtain ⟨h1, -, h3⟩ := lcm_bd h (Nat.le_refl ks.length)
  have hn : 0 < ks.length := by omega
  obtain ⟨p1, p2, -⟩ := flex_pos h hn
  have hq : Fq (flexP ks ks.length) (refS ks (lcmP ks ks.length) ks.length) (lcmP ks ks.length) := by
    rw [flex_eq h.k1 h1 h3 ks.length (Nat.le_refl _)]; exact Fq.of h1
  have hg := refS_ge (fun k hk => (h.k1 k hk).1) h1 h3 (i := i) ks.length (Nat.le_refl _) hi
  have ht := tdiv_ex (by have := (h.k1 i hi).1; omega) (h3 i hi)
  have hk := (h.k1 i hi).1
  have he := hq.eq
  generalize flexP ks ks.length = p at *
  generalize refS ks (lcmP ks ks.length) ks.length = S at *
  generalize (lcmP ks ks.length).tdiv (gi ks i) = t at *
  generalize gi ks i = K at *
  generalize lcmP ks ks.length = L at *
  have h5 : K * t * p.2 ≤ K * S * p.2 := Int.mul_le_mul_of_nonneg_right (Int.mul_le_mul_of_nonneg_left hg (by omega)) (by omega)
  have h6 : L * p.2 ≤ L * (K * p.1) := by
    have e1 : L * p.2 = K * t * p.2 := by rw [ht]
    have e2 : L * (K * p.1) = K * S * p.2 := by grind
    rw [e1, e2]; exact h5
  exact Int.le_of_mul_le_mul_left h6 h1

theorem eachR_val {err : Nat → Int} {x : Int} (h : ∀ k, err k = 0 ∨ err k = x) : ∀ (n k : Nat), (∃ j, k ≤ j ∧ j < k + n ∧ err j ≠ 0) → (eachR err k n).2 = x
  | 0, k, ⟨j, h1, h2, _⟩ => by omega
  | n + 1, k, ⟨j, h1, h2, h3⟩ => by
    unfold eachR
    by_cases hk : err k = 0
    · rw [if_pos hk]
      exact eachR_val h n (k + 1) ⟨j, by
        rcases Nat.lt_or_ge k j with h | h
        · omega
        · have : j = k := by omega
          subst this
          exact absurd hk h3, by omega, h3⟩
    · rw [if_neg hk]
      rcases h k with h | h
      · exact absurd h hk
      · exact h
theorem eachR_all {err : Nat → Int} : ∀ (n k : Nat), (∀ j, k ≤ j → j < k + n → err j = 0) → eachR err k n = (0, 0)
  | 0, _, _ => rfl
  | n + 1, k, h => by
    unfold eachR
    rw [if_pos (h k (by omega) (by omega))]
    exact eachR_all n (k + 1) (fun j h1 h2 => h j (by omega) (by omega))
theorem nbE_two (ks fs : List Int) (l : Fl) (F : Int) (nd k : Nat) : nbE ks fs l F nd k = 0 ∨ nbE ks fs l F nd k = 19 := by
  unfold nbE unl; split <;> simp
theorem nbE_bal {ks fs : List Int} {l : Fl} {F : Int} {nd k : Nat} : nbE ks fs l F nd k = 0 ↔ balS (nbB l k) (fg l k) (nbA l nd k) (gi ks k) (nbU ks nd k) (nbF fs F nd k) = 0 := by
  unfold nbE unl
  by_cases h : balS (nbB l k) (fg l k) (nbA l nd k) (gi ks k) (nbU ks nd k) (nbF fs F nd k) = 0
  · simp [h]
  · simp [h]
theorem shE_ok {ks fs : List Int} {nd nl nu : Nat} (h : ndE ks fs nd = 0) (h1 : nl = nd + 1) (h2 : nl + nu = ks.length) : shE ks fs nl nu nd = 0 := by
  unfold shE
  rw [h, show ((nl : Int) == (nd : Int) + 1) = true by rw [beq_iff_eq]; omega, show ((nu : Int) == (ks.length : Int) - nd - 1) = true by rw [beq_iff_eq]; omega]
  simp [firstE, unl]
/-- True halves are accepted. -/
theorem true_ok {ks fs : List Int} {l : Fl} {L : Int} (h : Mvd ks fs l L) {nd : Nat} (hn : ndE ks fs nd = 0) (hnd : nd < ks.length) : chH ks fs (l.take (nd + 1)) (l.drop (nd + 1)) ((fs.drop (nd + 1)).sum) nd = (0, 0) := by
  have hl := h.len
  unfold chH
  rw [shE_ok hn (by rw [List.length_take]; omega) (by rw [List.length_take, List.length_drop]; omega), if_neg (fun e : (0 : Int) ≠ 0 => e rfl), List.take_append_drop, hl, Int.toNat_natCast,
    eachR_all ks.length 0 (fun j _ hj => h.frE (by omega)), if_neg (fun e : (0 : Int) ≠ 0 => e rfl), if_neg (fun e => e rfl)]
  exact eachR_all ks.length 0 (fun j _ hj => nbE_bal.2 (h.bal (by omega)))
/-- One displacement changed by 1. -/
theorem changed {ks fs : List Int} {l l' : Fl} {L : Int} (h : Mvd ks fs l L) {nd a : Nat} {s : Int} (hs : s = 1 ∨ s = -1) (ha : a < ks.length) (hl : l'.length = l.length) (hne : ∀ j, j ≠ a → fg l' j = fg l j) (hat : fg l' a = ((fg l a).1 + s * (fg l a).2, (fg l a).2)) :
    nbE ks fs l' ((fs.drop (nd + 1)).sum) nd a ≠ 0 ∧ ∀ j, j < ks.length → frE (fg l' j) = 0 ∨ frE (fg l' j) = 2 := by
  constructor
  · rw [Ne, nbE_bal]
    have hb : nbB l' a = nbB l a := by
      unfold nbB; split
      · exact hne _ (by omega)
      · rfl
    have hA : nbA l' nd a = nbA l nd a := by
      unfold nbA
      rw [hl, hne (a + 1) (by omega)]
    have h0 := h.bal (nd := nd) ha
    have hb2 := (h.fqB ha).d0
    have ho2 := (h.fq ha).d0
    have hk := (h.ok.k1 a ha).1
    have hu : 0 ≤ nbU ks nd a := by
      unfold nbU; split
      · omega
      · split
        · have := (h.ok.k1 (a + 1) (by omega)).1; omega
        · omega
    have hA2 : 0 < (nbA l nd a).2 := by
      unfold nbA; split
      · decide
      · split
        · exact (h.fq (k := a + 1) (by have := h.len; omega)).d0
        · decide
    rw [hb, hA, hat]
    intro hc
    unfold balS at h0 hc
    dsimp only at hc
    have e : s * ((gi ks a + nbU ks nd a) * ((fg l a).2 * ((nbB l a).2 * (nbA l nd a).2))) = 0 := by
      generalize nbB l a = b at *
      generalize nbA l nd a = aa at *
      generalize fg l a = o at *
      generalize nbU ks nd a = U at *
      generalize gi ks a = K at *
      generalize nbF fs ((fs.drop (nd + 1)).sum) nd a = f at *
      grind
    have hp : 0 < (gi ks a + nbU ks nd a) * ((fg l a).2 * ((nbB l a).2 * (nbA l nd a).2)) := Int.mul_pos (by omega) (Int.mul_pos ho2 (Int.mul_pos hb2 hA2))
    rcases hs with rfl | rfl
    · rw [Int.one_mul] at e; omega
    · rw [Int.neg_mul, Int.one_mul] at e; omega
  · intro j hj
    by_cases hja : j = a
    · subst hja
      rw [hat]
      have h1 := h.low hj
      have ho2 := (h.fq hj).d0
      have hg : Int.gcd (fg l j).1 (fg l j).2 = 1 := by
        unfold lowB at h1
        simp only [Bool.and_eq_true, beq_iff_eq] at h1
        omega
      have h2 : lowB ((fg l j).1 + s * (fg l j).2) (fg l j).2 = true := by
        unfold lowB
        have e : Int.gcd ((fg l j).1 + s * (fg l j).2) (fg l j).2 = 1 := by rw [Int.mul_comm, Int.gcd_add_mul_left_left]; exact hg
        rw [e, decide_eq_true ho2]; rfl
      cases h3 : ((decide (-1000000000 ≤ (fg l j).1 + s * (fg l j).2) && decide ((fg l j).1 + s * (fg l j).2 ≤ 1000000000)) && decide ((fg l j).2 ≤ 1000000000))
      · exact .inr (frE_2 (p := ((fg l j).1 + s * (fg l j).2, (fg l j).2)) h2 h3)
      · exact .inl (frE_0 (p := ((fg l j).1 + s * (fg l j).2, (fg l j).2)) h2 h3)
    · rw [hne j hja]; exact .inl (h.frE hj)
theorem eachR_two {err : Nat → Int} {x : Int} (n : Nat) (h : ∀ k, k < n → err k = 0 ∨ err k = x) : (eachR err 0 n).2 = 0 ∨ (eachR err 0 n).2 = x := by
  by_cases hz : (eachR err 0 n).2 = 0
  · exact .inl hz
  · refine .inr ?_
    have hx : ∃ j, 0 ≤ j ∧ j < 0 + n ∧ err j ≠ 0 := by
      by_cases hall : ∀ j, 0 ≤ j → j < 0 + n → err j = 0
      · rw [eachR_all n 0 hall] at hz; exact absurd rfl hz
      · exact Classical.byContradiction (fun hc => hall (fun j h1 h2 => Classical.byContradiction (fun h3 => hc ⟨j, h1, h2, h3⟩)))
    have he : ∀ (m k : Nat), k + m ≤ n → eachR err k m = eachR (fun k => if k < n then err k else 0) k m := by
      intro m
      induction m with
      | zero => intro k _; rfl
      | succ m ih =>
        intro k hk
        unfold eachR
        rw [if_pos (by omega : k < n), ih (k + 1) (by omega)]
    rw [he n 0 (by omega)]
    obtain ⟨j, h1, h2, h3⟩ := hx
    refine eachR_val (fun k => ?_) n 0 ⟨j, h1, h2, by rw [if_pos (by omega)]; exact h3⟩
    by_cases hk : k < n
    · rw [if_pos hk]; exact h k hk
    · rw [if_neg hk]; exact .inl rfl
/-- Wrong halves are not accepted. -/
theorem wrong_no {ks fs : List Int} {l ls us : Fl} {L : Int} (h : Mvd ks fs l L) {nd a : Nat} {s : Int} (hn : ndE ks fs nd = 0) (hs : s = 1 ∨ s = -1) (ha : a < ks.length) (hl1 : ls.length = nd + 1) (hl : (ls ++ us).length = l.length) (hne : ∀ j, j ≠ a → fg (ls ++ us) j = fg l j) (hat : fg (ls ++ us) a = ((fg l a).1 + s * (fg l a).2, (fg l a).2)) :
    (chH ks fs ls us ((fs.drop (nd + 1)).sum) nd).2 = 19 ∨ (chH ks fs ls us ((fs.drop (nd + 1)).sum) nd).2 = 2 := by
  obtain ⟨h1, h2⟩ := changed h (nd := nd) hs ha hl hne hat
  have hll : (ls ++ us).length = ks.length := hl.trans h.len
  have hlen : ls.length + us.length = ks.length := by rw [← List.length_append, hll]
  unfold chH
  rw [shE_ok hn hl1 hlen, if_neg (fun e : (0 : Int) ≠ 0 => e rfl), hll, Int.toNat_natCast]
  rcases eachR_two ks.length h2 with e | e
  · rw [if_neg (fun h => h e), if_neg (fun e => e rfl)]
    exact .inl (eachR_val (nbE_two ks fs (ls ++ us) _ nd) ks.length 0 ⟨a, by omega, by omega, h1⟩)
  · rw [if_pos (by rw [e]; decide)]
    exact .inr e

end Go.Proofs.Ytjieojkfpoiabaa

