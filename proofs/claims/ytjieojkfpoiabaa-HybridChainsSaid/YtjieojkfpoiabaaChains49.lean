/-
  Texts of this claim, in their build order: Y5 Y6.
-/
import Derived.Test.YtjieojkfpoiabaaChains48
import Derived.Test.YtjieojkfpoiabaaChains36

/-
  The base's Gcd and IsLowest at any numbers; CopyFracs with a row of its own.
-/
namespace Go.Proofs.Ytjieojkfpoiabaa
open Go.RowKit

set_option maxHeartbeats 800000 in
set_option maxRecDepth 100000 in
theorem bGcd_pos (x y : Int) (w : World) (hx0 : -9223372036854775808 ≤ x) (hx1 : x ≤ 9223372036854775807) (hy0 : 0 < y) (hy1 : y ≤ 9223372036854775807) :
    Calls Try.prog 110 #[.int .i64 x, .int .i64 y] w fun e w' => e = .returned (.int .i64 (Int.gcd x y : Nat)) ∧ Below w.heap.size w w' := by
  go_enter Try.func110, Try.ntmps110
  go_wp2_with fail
  go_loopw [0, 1] (fun p q wr => ∃ x' y' : Int, p = .int .i64 x' ∧ q = .int .i64 y' ∧ Hid (Int.gcd x' y' = Int.gcd x y) ∧ -9223372036854775808 ≤ x' ∧ x' ≤ 9223372036854775807 ∧ -9223372036854775807 ≤ y' ∧ y' ≤ 9223372036854775807 ∧ Hid (-9223372036854775807 ≤ x' ∨ 0 < y') ∧ Hid (Below w.heap.size w wr)) (fun _ q _ => (intOf q).natAbs)
  case atStart => exact ⟨x, y, rfl, rfl, Lib.hid rfl, hx0, hx1, by omega, hy1, Lib.hid (.inr hy0), Lib.hid (bSelf w)⟩
  case round =>
    obtain ⟨x', y', rfl, rfl, hg, hx0', hx1', hy0', hy1', hc, hb⟩ := hrel
    by_cases h0 : y' = 0
    · subst h0
      have hx2 : -9223372036854775807 ≤ x' := by have := hc.out; omega
      go_wp2_with fail
      have HS : Hid (∀ W, Calls Try.prog 21 #[.int .i64 x'] W fun e w' => e = .returned (.int .i64 (Int.gcd x y : Nat)) ∧ W = w') := Lib.hid (fun W => by
        rw [← hg.out]
        simp only [Int.gcd_zero_right]
        go_enter Try.func21, Try.ntmps21
        go_wp2
        all_goals
          go_ret
          exact ⟨ret_int (by omega), rfl⟩)
      refine (HS.out _).mono ?_
      rintro e w' ⟨rfl, rfl⟩
      go_wp2_with fail
      go_ret
      exact ⟨rfl, hb.out⟩
    · have h0' : (y' == 0) = false := by simpa using h0
      have hcc := hc.out
      have hm : (x'.tmod y').natAbs < y'.natAbs := by rw [Int.natAbs_tmod]; exact Nat.mod_lt _ (by omega)
      have hng : ¬ (x' = -9223372036854775808 ∧ y' = -1) := by omega
      have HM := Lib.hid hm
      clear hm hcc
      go_wp2_with fail
      refine wp_region_quiet_all (fun w' => Below (World.heap wr).size (wr) w') (by kernel_rfl) (by kernel_rfl) (Below.refl _ _).drew ?_
      refine WQ.out ?_
      repeat (first | (refine WQ_no (by rfl) ?_; (simp only [Act.put, List.setIfInBounds_toArray, List.set_cons_zero, List.set_cons_succ])) | (refine WQ_yes (by rfl) ?_; apply Exists.intro; refine ⟨fun w1 hb1 => ?_, ?_⟩; (focus ((skip; have hb1 := Lib.hid hb1; go_simp); (try (go_bits; try go_simp)); (try (rw [if_pos (by omega)]; try go_simp)); (first | done | (fail) | (with_reducible rfl) | exact rfl))); (simp only [Act.put, List.setIfInBounds_toArray, List.set_cons_zero, List.set_cons_succ])))
      refine WQ_nil ?_
      intro w1 hb1
      have hb2 := Lib.hid (bThen hb.out hb1)
      clear hb1
      go_wp2_with fail
      go_roundw
      case rel => have hm := HM.out; exact ⟨y', x'.tmod y', rfl, rfl, Lib.hid (gcd_step.trans hg.out), by omega, by omega, by omega, by omega, Lib.hid (.inl (by omega)), hb2⟩
      case measure => exact HM.out

set_option maxHeartbeats 400000 in
theorem IsLowest_i64 (p : Int × Int) (w : World) (hp : I64 p) :
    Calls Try.prog 61 #[.agg #[.int .i64 p.1, .int .i64 p.2]] w fun e w' => e = .returned (.bool (lowB p.1 p.2)) ∧ Below w.heap.size w w' := by
  obtain ⟨n, m⟩ := p
  obtain ⟨n0, n1, m0, m1⟩ := hp
  dsimp only at n0 n1 m0 m1 ⊢
  have hD := Lib.hid (fun W (h : 0 < m) => bGcd_pos n m W n0 n1 h m1)
  unfold lowB
  obtain ⟨g, hg⟩ : ∃ g : Int, ((Int.gcd n m : Nat) : Int) = g := ⟨_, rfl⟩
  rw [hg] at hD ⊢
  clear hg
  by_cases h : 0 < m
  · have h1 : decide (0 < m) = true := decide_eq_true h
    rw [h1, Bool.true_and]
    go_enter Try.func61, Try.ntmps61
    go_wp2_with fail
    refine (hD.out _ h).mono ?_
    rintro e w1 ⟨rfl, hb⟩
    have HB := Lib.hid (bThen (bAlloc (bSelf w) _) hb)
    clear hb
    go_wp2_with fail
    go_ret
    exact ⟨rfl, HB.out⟩
  · have h1 : decide (0 < m) = false := decide_eq_false h
    rw [h1, Bool.false_and]
    go_enter Try.func61, Try.ntmps61
    go_wp2_with fail
    go_ret
    exact ⟨rfl, bAlloc (bSelf w) _⟩

/-- A list of fractions in a row of its own. -/
def FOwn (l : List (Int × Int)) (w : World) (e : Ending) (w' : World) : Prop := ∃ v, e = .returned v ∧ w'.ownsRow w.heap.size 86 2 v l.length (fcells l) ∧ Below w.heap.size w w'
set_option maxHeartbeats 400000 in
set_option maxRecDepth 100000 in
theorem CopyFracs_own (ms : List (Int × Int)) (a : Option Addr) (cap : Nat) (w : World) (hfew : ms.length ≤ 100000) (hr : Reads w a (ms.length * 2) (fracs ms)) :
    Calls Try.prog 65 #[.slice a ms.length cap] w fun e w' => FOwn ms w e w' := by
  cases a with
  | none =>
    have h0 : ms.length = 0 := by
      rcases hr with h | ⟨b, off, e, -⟩
      · omega
      · cases e
    have h1 : ms = [] := List.length_eq_zero_iff.1 h0
    subst h1
    go_enter Try.func65, Try.ntmps65
    go_wp2_with fail
    go_ret
    exact ⟨_, rfl, World.ownsRow_lit w #[] 0 (Nat.le_refl _) (by decide) rfl, bAlloc (bSelf w) _⟩
  | some ad =>
    have HR := Lib.hid hr
    clear hr
    have HN := Lib.hid (Reads.newsF (HR.out.alloc (.cells #[] 86)))
    have hcl := Lib.hid (fcells_len ms)
    go_enter Try.func65, Try.ntmps65
    go_wp2_with (at_builtin; refine wpList_app w.heap.size rtFrac rfl (.tmp 3) (.tmp 4) rfl (.slice (some ⟨w.heap.size, 0, none⟩) 0 0) 0 [] rfl (World.ownsRow_lit w #[] 0 (Nat.le_refl _) (by decide) rfl) ad ms.length cap (fcells ms) rfl hcl.out HN.out (onesF _) (by unfold maxLen; omega) (by omega) (by simp) ?_; intro v' w2 hown' hgrow _ hwhere; have HO := Lib.hid hown'; have HBB : Hid (Below w.heap.size w w2) := Lib.hid ((bAlloc (bSelf w) _).grown hgrow (by simp) (fun k e => by cases e; exact Nat.le_refl _)); clear hown' hgrow hwhere)
    go_ret
    have hrow := HO.out
    rw [Nat.zero_add, List.nil_append] at hrow
    exact ⟨_, rfl, hrow, HBB.out⟩

end Go.Proofs.Ytjieojkfpoiabaa

/-
  A node's balance: the reference's equation of fractions is the program's sum of products.
-/
namespace Go.Proofs.Ytjieojkfpoiabaa
open Go.RowKit

/-- What stands for the spring above a node. -/
def abvQ (ks : List Int) (u : List (Int × Int)) (F : Int) (nd k : Nat) : Int × Int := if k = nd then (F, 1) else if k + 1 < u.length then sprQ ks u (k + 1) else (0, 1)
def cmpQ (p q : Int × Int) : Int := (p.1 * q.2 - q.1 * p.2).sign
theorem sprQ_fq {ks : List Int} {u : List (Int × Int)} {k : Nat} (hk : k < u.length) (hsm : ∀ j, j < u.length → SmF (fg u j)) :
    Fq (sprQ ks u k) (gi ks k * ((fg u k).1 * (nbB u k).2 - (nbB u k).1 * (fg u k).2)) ((fg u k).2 * (nbB u k).2) := by
  have ho := (hsm k hk).d0
  unfold sprQ nbB
  by_cases h : 0 < k
  · rw [if_pos h, if_pos h]
    have hb := (hsm (k - 1) (by omega)).d0
    exact sprR_fq _ (by omega) (by omega)
  · rw [if_neg h, if_neg h]
    exact spr0_as _ (by omega)
theorem nbB_pos {u : List (Int × Int)} {k : Nat} (hk : k < u.length) (hsm : ∀ j, j < u.length → SmF (fg u j)) : 0 < (nbB u k).2 := by
  unfold nbB
  split
  · have := (hsm (k - 1) (by omega)).d0; omega
  · decide
theorem node_law {ks fs : List Int} {u : List (Int × Int)} {F : Int} {nd k : Nat} (hu : u.length = ks.length) (hk : k < u.length) (hsm : ∀ j, j < u.length → SmF (fg u j)) :
    cmpQ (rAdd (abvQ ks u F nd k) (gi fs k, 1)) (sprQ ks u k) = 0 ↔ nbE ks fs u F nd k = 0 := by
  have hs := sprQ_fq (ks := ks) hk hsm
  have hb := nbB_pos hk hsm
  have ho : 0 < (fg u k).2 := by have := (hsm k hk).d0; omega
  have e1 : nbE ks fs u F nd k = 0 ↔ balS (nbB u k) (fg u k) (nbA u nd k) (gi ks k) (nbU ks nd k) (nbF fs F nd k) = 0 := by
    unfold nbE unl
    by_cases h : balS (nbB u k) (fg u k) (nbA u nd k) (gi ks k) (nbU ks nd k) (nbF fs F nd k) = 0
    · simp [h]
    · simp [h]
  rw [e1]
  have e2 : ∀ p q : Int × Int, cmpQ p q = 0 ↔ p.1 * q.2 = q.1 * p.2 := fun p q => by
    unfold cmpQ
    rw [Int.sign_eq_zero_iff_zero]
    omega
  rw [e2]
  unfold abvQ nbA nbU nbF
  by_cases hn : k = nd
  · rw [if_pos hn, if_pos hn, if_pos hn, if_pos hn]
    exact bal_end hs rfl
  · rw [if_neg hn, if_neg hn, if_neg hn, if_neg hn]
    by_cases hup : k + 1 < u.length
    · rw [if_pos hup, if_pos hup, if_pos (by omega)]
      have ht := sprQ_fq (ks := ks) hup hsm
      have hB : nbB u (k + 1) = fg u k := by unfold nbB; rw [if_pos (by omega)]; rfl
      rw [hB] at ht
      exact bal_up ho hs ht
    · rw [if_neg hup, if_neg hup, if_neg (by omega)]
      have := bal_end (F := gi fs k) (G := 0) hs (A := (0, 1)) rfl
      rw [Int.add_zero] at this
      exact this
theorem dg_fr1 {n m : Int} {k : Nat} (h : (dg n).length ≤ k) : (dg (fr n m).1).length ≤ k := dg_le (fr_bd1 (Nat.le_refl _)) h
theorem dg_fr2 {n m : Int} {k : Nat} (h : (dg m).length ≤ k) : (dg (fr n m).2).length ≤ k := dg_le (fr_bd2 (Nat.le_refl _)) h
theorem sprQ_dg {ks : List Int} {u : List (Int × Int)} {k : Nat} (hk : k < u.length) (hk0 : 0 ≤ gi ks k) (hk1 : gi ks k ≤ 1000) (hsm : ∀ j, j < u.length → SmF (fg u j)) :
    (dg (sprQ ks u k).1).length ≤ 6 ∧ (dg (sprQ ks u k).2).length ≤ 6 ∧ 0 < (sprQ ks u k).2 := by
  obtain ⟨g1, g2, g3⟩ := fr_sm (hsm k hk)
  have hK : (dg (gi ks k)).length ≤ 3 := dg_small 3 (by omega)
  have h1 : (dg 1).length ≤ 3 := dg_small 3 (show (1 : Int).natAbs < 1000000000 ^ 3 by decide)
  refine ⟨?_, ?_, (sprQ_fq (ks := ks) hk hsm).d0⟩
  all_goals
    unfold sprQ
    split
  · obtain ⟨e1, e2, e3⟩ := fr_sm (hsm (k - 1) (by omega))
    obtain ⟨s1, s2, s3⟩ := sub_sm g1 g2 e1 e2 g3 e3
    exact dg_fr1 (Nat.le_trans dg_mul (by dsimp only; omega))
  · exact dg_fr1 (Nat.le_trans dg_mul (by have := dg_small 3 (z := (fr (fg u k).1 (fg u k).2).1) (by omega); dsimp only; omega))
  · obtain ⟨e1, e2, e3⟩ := fr_sm (hsm (k - 1) (by omega))
    obtain ⟨s1, s2, s3⟩ := sub_sm g1 g2 e1 e2 g3 e3
    exact dg_fr2 (Nat.le_trans dg_mul (by dsimp only; omega))
  · exact dg_fr2 (Nat.le_trans dg_mul (by have := dg_small 3 (z := (fr (fg u k).1 (fg u k).2).2) (by omega); dsimp only; omega))
theorem addQ_dg {p : Int × Int} {f : Int} (h1 : (dg p.1).length ≤ 6) (h2 : (dg p.2).length ≤ 6) (hf : f.natAbs ≤ 100000) : (dg (rAdd p (f, 1)).1).length ≤ 20 ∧ (dg (rAdd p (f, 1)).2).length ≤ 20 := by
  have hF : (dg f).length ≤ 3 := dg_small 3 (by omega)
  have hO : (dg 1).length ≤ 3 := dg_small 3 (show (1 : Int).natAbs < 1000000000 ^ 3 by decide)
  have a1 : (dg (p.1 * 1)).length ≤ 9 := Nat.le_trans dg_mul (by omega)
  have a2 : (dg (f * p.2)).length ≤ 9 := Nat.le_trans dg_mul (by omega)
  have a3 : (dg (p.2 * 1)).length ≤ 9 := Nat.le_trans dg_mul (by omega)
  exact ⟨Nat.le_trans (dg_fr1 (dg_add a1 a2)) (by decide), Nat.le_trans (dg_fr2 a3) (by decide)⟩

end Go.Proofs.Ytjieojkfpoiabaa

