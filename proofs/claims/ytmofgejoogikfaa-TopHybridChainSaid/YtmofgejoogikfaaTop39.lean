/-
  Texts of this claim, in their build order: P3 Lib13.
-/
import Derived.Test.YtmofgejoogikfaaTop38
import Derived.Test.YtmofgejoogikfaaTop25
import Derived.Test.YtmofgejoogikfaaTop19
import Derived.Test.YtmofgejoogikfaaTop6

/-
  Two halves: further plain laws: the chain backwards, one displacement changed, the upper half alone, doubled forces.
-/
namespace Go.Proofs.Ytmofgejoogikfaa
open Go.RowKit

theorem flex_pos {ks fs : List Int} (h : ChOk ks fs) (hn : 0 < ks.length) : 0 < (flexP ks ks.length).1 ∧ 0 < (flexP ks ks.length).2 ∧ Int.gcd (flexP ks ks.length).2 (flexP ks ks.length).1 = 1 := by
  obtain ⟨h1, -, h3⟩ := lcm_bd h (Nat.le_refl ks.length)
  have e := flex_eq h.k1 h1 h3 ks.length (Nat.le_refl _)
  have hs := (refS_bd (fun k hk => (h.k1 k hk).1) h1 h3 ks.length (Nat.le_refl _)).1
  have hs0 : 0 < refS ks (lcmP ks ks.length) ks.length := by omega
  rw [e]
  have h2 := fr_pos (n := lcmP ks ks.length) hs0
  rw [fr_swap] at h2
  exact ⟨h2, fr_pos h1, by rw [Int.gcd_comm]; exact fr_low _ h1⟩
theorem eachR_val {err : Nat → Int} {x : Int} (h : ∀ k, err k = 0 ∨ err k = x) : ∀ (n k : Nat), (∃ j, k ≤ j ∧ j < k + n ∧ err j ≠ 0) → (eachR err k n).2 = x
  | 0, k, ⟨j, h1, h2, _⟩ => by omega
  | n + 1, k, ⟨j, h1, h2, h3⟩ => by
    unfold eachR
    by_cases hk : err k = 0
    · rw [if_pos hk]
      exact eachR_val h n (k + 1) ⟨j, by
        rcases Nat.lt_or_ge k j with h | h
        · omega
        · have : j = k := by omega
          subst this
          exact absurd hk h3, by omega, h3⟩
    · rw [if_neg hk]
      rcases h k with h | h
      · exact absurd h hk
      · exact h
theorem eachR_all {err : Nat → Int} : ∀ (n k : Nat), (∀ j, k ≤ j → j < k + n → err j = 0) → eachR err k n = (0, 0)
  | 0, _, _ => rfl
  | n + 1, k, h => by
    unfold eachR
    rw [if_pos (h k (by omega) (by omega))]
    exact eachR_all n (k + 1) (fun j h1 h2 => h j (by omega) (by omega))
theorem nbE_two (ks fs : List Int) (l : Fl) (F : Int) (nd k : Nat) : nbE ks fs l F nd k = 0 ∨ nbE ks fs l F nd k = 19 := by
  unfold nbE unl; split <;> simp
theorem nbE_bal {ks fs : List Int} {l : Fl} {F : Int} {nd k : Nat} : nbE ks fs l F nd k = 0 ↔ balS (nbB l k) (fg l k) (nbA l nd k) (gi ks k) (nbU ks nd k) (nbF fs F nd k) = 0 := by
  unfold nbE unl
  by_cases h : balS (nbB l k) (fg l k) (nbA l nd k) (gi ks k) (nbU ks nd k) (nbF fs F nd k) = 0
  · simp [h]
  · simp [h]
theorem shE_ok {ks fs : List Int} {nd nl nu : Nat} (h : ndE ks fs nd = 0) (h1 : nl = nd + 1) (h2 : nl + nu = ks.length) : shE ks fs nl nu nd = 0 := by
  unfold shE
  rw [h, show ((nl : Int) == (nd : Int) + 1) = true by rw [beq_iff_eq]; omega, show ((nu : Int) == (ks.length : Int) - nd - 1) = true by rw [beq_iff_eq]; omega]
  simp [firstE, unl]
/-- True halves are accepted. -/
theorem true_ok {ks fs : List Int} {l : Fl} {L : Int} (h : Mvd ks fs l L) {nd : Nat} (hn : ndE ks fs nd = 0) (hnd : nd < ks.length) : chH ks fs (l.take (nd + 1)) (l.drop (nd + 1)) ((fs.drop (nd + 1)).sum) nd = (0, 0) := by
  have hl := h.len
  unfold chH
  rw [shE_ok hn (by rw [List.length_take]; omega) (by rw [List.length_take, List.length_drop]; omega), if_neg (fun e : (0 : Int) ≠ 0 => e rfl), List.take_append_drop, hl, Int.toNat_natCast,
    eachR_all ks.length 0 (fun j _ hj => h.frE (by omega)), if_neg (fun e : (0 : Int) ≠ 0 => e rfl), if_neg (fun e => e rfl)]
  exact eachR_all ks.length 0 (fun j _ hj => nbE_bal.2 (h.bal (by omega)))
/-- One displacement changed by 1. -/
theorem changed {ks fs : List Int} {l l' : Fl} {L : Int} (h : Mvd ks fs l L) {nd a : Nat} {s : Int} (hs : s = 1 ∨ s = -1) (ha : a < ks.length) (hl : l'.length = l.length) (hne : ∀ j, j ≠ a → fg l' j = fg l j) (hat : fg l' a = ((fg l a).1 + s * (fg l a).2, (fg l a).2)) :
    nbE ks fs l' ((fs.drop (nd + 1)).sum) nd a ≠ 0 ∧ ∀ j, j < ks.length → frE (fg l' j) = 0 ∨ frE (fg l' j) = 2 := by
  constructor
  · rw [Ne, nbE_bal]
    have hb : nbB l' a = nbB l a := by
      unfold nbB; split
      · exact hne _ (by omega)
      · rfl
    have hA : nbA l' nd a = nbA l nd a := by
      unfold nbA
      rw [hl, hne (a + 1) (by omega)]
    have h0 := h.bal (nd := nd) ha
    have hb2 := (h.fqB ha).d0
    have ho2 := (h.fq ha).d0
    have hk := (h.ok.k1 a ha).1
    have hu : 0 ≤ nbU ks nd a := by
      unfold nbU; split
      · omega
      · split
        · have := (h.ok.k1 (a + 1) (by omega)).1; omega
        · omega
    have hA2 : 0 < (nbA l nd a).2 := by
      unfold nbA; split
      · decide
      · split
        · exact (h.fq (k := a + 1) (by have := h.len; omega)).d0
        · decide
    rw [hb, hA, hat]
    intro hc
    unfold balS at h0 hc
    dsimp only at hc
    have e : s * ((gi ks a + nbU ks nd a) * ((fg l a).2 * ((nbB l a).2 * (nbA l nd a).2))) = 0 := by
      generalize nbB l a = b at *
      generalize nbA l nd a = aa at *
      generalize fg l a = o at *
      generalize nbU ks nd a = U at *
      generalize gi ks a = K at *
      generalize nbF fs ((fs.drop (nd + 1)).sum) nd a = f at *
      grind
    have hp : 0 < (gi ks a + nbU ks nd a) * ((fg l a).2 * ((nbB l a).2 * (nbA l nd a).2)) := Int.mul_pos (by omega) (Int.mul_pos ho2 (Int.mul_pos hb2 hA2))
    rcases hs with rfl | rfl
    · rw [Int.one_mul] at e; omega
    · rw [Int.neg_mul, Int.one_mul] at e; omega
  · intro j hj
    by_cases hja : j = a
    · subst hja
      rw [hat]
      have h1 := h.low hj
      have ho2 := (h.fq hj).d0
      have hg : Int.gcd (fg l j).1 (fg l j).2 = 1 := by
        unfold lowB at h1
        simp only [Bool.and_eq_true, beq_iff_eq] at h1
        omega
      have h2 : lowB ((fg l j).1 + s * (fg l j).2) (fg l j).2 = true := by
        unfold lowB
        have e : Int.gcd ((fg l j).1 + s * (fg l j).2) (fg l j).2 = 1 := by rw [Int.mul_comm, Int.gcd_add_mul_left_left]; exact hg
        rw [e, decide_eq_true ho2]; rfl
      cases h3 : ((decide (-1000000000 ≤ (fg l j).1 + s * (fg l j).2) && decide ((fg l j).1 + s * (fg l j).2 ≤ 1000000000)) && decide ((fg l j).2 ≤ 1000000000))
      · exact .inr (frE_2 (p := ((fg l j).1 + s * (fg l j).2, (fg l j).2)) h2 h3)
      · exact .inl (frE_0 (p := ((fg l j).1 + s * (fg l j).2, (fg l j).2)) h2 h3)
    · rw [hne j hja]; exact .inl (h.frE hj)
theorem eachR_two {err : Nat → Int} {x : Int} (n : Nat) (h : ∀ k, k < n → err k = 0 ∨ err k = x) : (eachR err 0 n).2 = 0 ∨ (eachR err 0 n).2 = x := by
  by_cases hz : (eachR err 0 n).2 = 0
  · exact .inl hz
  · refine .inr ?_
    have hx : ∃ j, 0 ≤ j ∧ j < 0 + n ∧ err j ≠ 0 := by
      by_cases hall : ∀ j, 0 ≤ j → j < 0 + n → err j = 0
      · rw [eachR_all n 0 hall] at hz; exact absurd rfl hz
      · exact Classical.byContradiction (fun hc => hall (fun j h1 h2 => Classical.byContradiction (fun h3 => hc ⟨j, h1, h2, h3⟩)))
    have he : ∀ (m k : Nat), k + m ≤ n → eachR err k m = eachR (fun k => if k < n then err k else 0) k m := by
      intro m
      induction m with
      | zero => intro k _; rfl
      | succ m ih =>
        intro k hk
        unfold eachR
        rw [if_pos (by omega : k < n), ih (k + 1) (by omega)]
    rw [he n 0 (by omega)]
    obtain ⟨j, h1, h2, h3⟩ := hx
    refine eachR_val (fun k => ?_) n 0 ⟨j, h1, h2, by rw [if_pos (by omega)]; exact h3⟩
    by_cases hk : k < n
    · rw [if_pos hk]; exact h k hk
    · rw [if_neg hk]; exact .inl rfl
/-- Wrong halves are not accepted. -/
theorem wrong_no {ks fs : List Int} {l ls us : Fl} {L : Int} (h : Mvd ks fs l L) {nd a : Nat} {s : Int} (hn : ndE ks fs nd = 0) (hs : s = 1 ∨ s = -1) (ha : a < ks.length) (hl1 : ls.length = nd + 1) (hl : (ls ++ us).length = l.length) (hne : ∀ j, j ≠ a → fg (ls ++ us) j = fg l j) (hat : fg (ls ++ us) a = ((fg l a).1 + s * (fg l a).2, (fg l a).2)) :
    (chH ks fs ls us ((fs.drop (nd + 1)).sum) nd).2 = 19 ∨ (chH ks fs ls us ((fs.drop (nd + 1)).sum) nd).2 = 2 := by
  obtain ⟨h1, h2⟩ := changed h (nd := nd) hs ha hl hne hat
  have hll : (ls ++ us).length = ks.length := hl.trans h.len
  have hlen : ls.length + us.length = ks.length := by rw [← List.length_append, hll]
  unfold chH
  rw [shE_ok hn hl1 hlen, if_neg (fun e : (0 : Int) ≠ 0 => e rfl), hll, Int.toNat_natCast]
  rcases eachR_two ks.length h2 with e | e
  · rw [if_neg (fun h => h e), if_neg (fun e => e rfl)]
    exact .inl (eachR_val (nbE_two ks fs (ls ++ us) _ nd) ks.length 0 ⟨a, by omega, by omega, h1⟩)
  · rw [if_pos (by rw [e]; decide)]
    exact .inr e

end Go.Proofs.Ytmofgejoogikfaa

/-
  Two rows of whole numbers that grow by turns, in the memory beyond a box that holds them.
-/
namespace Go.Proofs.Ytmofgejoogikfaa
open Go.RowKit

/-- Two rows beyond block B, apart from each other and from some cells laid for them. -/
structure RS (B : Nat) (W : World) (u1 u2 : Value) (m1 m2 : Nat) (xs1 xs2 : List Value) (S : List (Nat × Int)) : Prop where
  lt : B < W.heap.size
  r1 : W.ownsRow (B + 1) 3 1 u1 m1 xs1
  r2 : W.ownsRow (B + 1) 3 1 u2 m2 xs2
  ap : ∀ g, u1.ownBlock = some g → u2.ownBlock ≠ some g
  tm : ∀ p ∈ S, Blk W p.1 #[.int .i64 p.2] ∧ u1.ownBlock ≠ some p.1 ∧ u2.ownBlock ≠ some p.1
section
variable {B : Nat} {W : World} {u1 u2 : Value} {m1 m2 : Nat} {xs1 xs2 : List Value} {S : List (Nat × Int)}
theorem RS.to (h : RS B W u1 u2 m1 m2 xs1 xs2 S) {W' : World} (hb : Below W.heap.size W W') : RS B W' u1 u2 m1 m2 xs1 xs2 S :=
  ⟨Nat.lt_of_lt_of_le h.lt hb.size, owns_to h.r1 hb, owns_to h.r2 hb, h.ap, fun p hp => ⟨(h.tm p hp).1.to hb, (h.tm p hp).2⟩⟩
theorem RS.alloc (h : RS B W u1 u2 m1 m2 xs1 xs2 S) (x : Int) (T : TypeId) : RS B (W.alloc (.cells #[.int .i64 x] T)) u1 u2 m1 m2 xs1 xs2 ((W.heap.size, x) :: S) := by
  have hb : Below W.heap.size W (W.alloc (.cells #[.int .i64 x] T)) := bAlloc (bSelf W) _
  have h' := h.to hb
  refine ⟨h'.lt, h'.r1, h'.r2, h.ap, fun p hp => ?_⟩
  rcases List.mem_cons.1 hp with rfl | hp
  · exact ⟨Blk.new _ _ _, fun e => by have := (h.r1.lt _ e).2; dsimp only at this; omega, fun e => by have := (h.r2.lt _ e).2; dsimp only at this; omega⟩
  · exact h'.tm p hp
theorem RS.belowA (h : RS B W u1 u2 m1 m2 xs1 xs2 S) (o : Obj) : Below (B + 1) W (W.alloc o) := (Below.refl _ _).alloc h.lt o
theorem blk_grown {W W' : World} {b : Nat} {cs : Array Value} {row : Option Nat} (h : Blk W b cs) (hg : W.grownBy W' row) (hne : row ≠ some b) : Blk W' b cs := by
  have hb := hg.block b h.1 (fun e => hne e.symm)
  exact ⟨Nat.lt_of_lt_of_le h.1 hg.size, fun o => (World.cell?_of_block (a := ⟨b, o, none⟩) hb).trans (h.2.1 o), fun o => (World.frozen?_of_block (a := ⟨b, o, none⟩) hb).trans (h.2.2 o)⟩
theorem RS.app1 (h : RS B W u1 u2 m1 m2 xs1 xs2 S) {W' : World} {v' : Value} {m' : Nat} {ys : List Value} (hown : W'.ownsRow (B + 1) 3 1 v' m' ys) (hg : W.grownBy W' u1.ownBlock) (hw : v'.ownBlock = u1.ownBlock ∨ v'.ownBlock = some W.heap.size) :
    RS B W' v' u2 m' m2 ys xs2 S ∧ Below (B + 1) W W' := by
  refine ⟨⟨Nat.lt_of_lt_of_le h.lt hg.size, hown, h.r2.kept hg ?_, fun g e e2 => ?_, fun p hp => ?_⟩, (Below.refl _ _).grown hg h.lt (fun k e => (h.r1.lt k e).1)⟩
  · cases hv : u2.ownBlock with
    | none => exact .inl rfl
    | some g => exact .inr (fun e => h.ap g e.symm hv)
  · rcases hw with hw | hw
    · exact h.ap g (hw ▸ e) e2
    · have := (h.r2.lt g e2).2
      rw [hw] at e
      cases e
      omega
  · obtain ⟨h1, h2, h3⟩ := h.tm p hp
    refine ⟨blk_grown h1 hg h2, fun e => ?_, h3⟩
    rcases hw with hw | hw
    · exact h2 (hw ▸ e)
    · have := h1.1
      rw [hw] at e
      have e := Option.some.inj e
      omega
theorem RS.swap (h : RS B W u1 u2 m1 m2 xs1 xs2 S) : RS B W u2 u1 m2 m1 xs2 xs1 S :=
  ⟨h.lt, h.r2, h.r1, fun g e e2 => h.ap g e2 e, fun p hp => ⟨(h.tm p hp).1, (h.tm p hp).2.2, (h.tm p hp).2.1⟩⟩
theorem RS.app2 (h : RS B W u1 u2 m1 m2 xs1 xs2 S) {W' : World} {v' : Value} {m' : Nat} {ys : List Value} (hown : W'.ownsRow (B + 1) 3 1 v' m' ys) (hg : W.grownBy W' u2.ownBlock) (hw : v'.ownBlock = u2.ownBlock ∨ v'.ownBlock = some W.heap.size) :
    RS B W' u1 v' m1 m' xs1 ys S ∧ Below (B + 1) W W' := by
  obtain ⟨h1, h2⟩ := h.swap.app1 hown hg hw
  exact ⟨h1.swap, h2⟩
theorem RS.set (h : RS B W u1 u2 m1 m2 xs1 xs2 S) (i : Nat) (v : Value) : RS B (W.setCell ⟨B, i, none⟩ v) u1 u2 m1 m2 xs1 xs2 [] :=
  ⟨by simpa [World.setCell] using h.lt, ownsRow_setCell_below h.r1 (Nat.lt_succ_self B) v, ownsRow_setCell_below h.r2 (Nat.lt_succ_self B) v, h.ap, fun p hp => by cases hp⟩
end
theorem gi_rev {l : List Int} {k : Nat} (h : k < l.length) : gi l.reverse k = gi l (l.length - 1 - k) := by
  rw [gi_lt (by rw [List.length_reverse]; exact h), gi_lt (by omega), List.getElem_reverse]
theorem chkC_of {ks fs : List Int} (h : ChOk ks fs) (hn : 0 < ks.length) : (chkC ks fs).2 = 0 := by
  have hl := h.len
  have hf := h.few
  have e0 : chE0 ks fs = 0 := by
    unfold chE0
    rw [decide_eq_true (show (0 : Int) < ks.length by omega), show ((fs.length : Int) == ks.length) = true by rw [beq_iff_eq]; omega, decide_eq_true (show (ks.length : Int) ≤ 6 by omega)]
    rfl
  unfold chkC
  rw [if_pos e0, eachR_all ks.length 0 (fun j _ hj => ?_)]
  unfold nodE
  have h1 := h.k1 j (by omega)
  have h2 := h.f1 j (by omega)
  rw [decide_eq_true h1.1, decide_eq_true h1.2, decide_eq_true h2.1, decide_eq_true h2.2]
  rfl

end Go.Proofs.Ytmofgejoogikfaa

