/-
  Texts of this claim, in their build order: X2 X3 X4.
-/
import Derived.Test.YtmofgejoogikfaaTop13
import Derived.Test.YtmofgejoogikfaaTop11

/-
  Contracts: StiffnessOf of package hybrid.
-/
namespace Go.Proofs.Ytmofgejoogikfaa
open Go.RowKit

/-- The chain's flexibility up to a node: a fraction. -/
def flexP (ks : List Int) : Nat → Int × Int
  | 0 => (0, 1)
  | k + 1 => fr ((flexP ks k).1 * gi ks k + (flexP ks k).2) ((flexP ks k).2 * gi ks k)
structure FlexOk (p q : Int) (k : Nat) : Prop where
  p0 : 0 ≤ p
  p1 : p ≤ k * 20 ^ k
  q0 : 1 ≤ q
  q1 : q ≤ 20 ^ k
theorem fr_le {n m : Int} (hn : 0 ≤ n) : 0 ≤ (fr n m).1 ∧ (fr n m).1 ≤ n := by
  have h1 := @fr_bd1 n m n.natAbs (Nat.le_refl _)
  have h2 : 0 ≤ (fr n m).1 := by unfold fr; exact Int.tdiv_nonneg hn (Int.natCast_nonneg _)
  omega
theorem flex_ok {ks fs : List Int} (h : ChOk ks fs) : ∀ k, k ≤ ks.length → FlexOk (flexP ks k).1 (flexP ks k).2 k
  | 0, _ => ⟨Int.le_refl 0, by simp [flexP], Int.le_refl 1, by simp [flexP]⟩
  | k + 1, hk => by
    obtain ⟨p0, p1, q0, q1⟩ := flex_ok h k (by omega)
    obtain ⟨k0, k1⟩ := h.k1 k (by omega)
    have e : flexP ks (k + 1) = fr ((flexP ks k).1 * gi ks k + (flexP ks k).2) ((flexP ks k).2 * gi ks k) := rfl
    rw [e]
    obtain ⟨p, hp⟩ : ∃ p, (flexP ks k).1 = p := ⟨_, rfl⟩
    obtain ⟨q, hq⟩ : ∃ p, (flexP ks k).2 = p := ⟨_, rfl⟩
    obtain ⟨K, hK⟩ : ∃ K, gi ks k = K := ⟨_, rfl⟩
    rw [hp] at p0 p1 ⊢
    rw [hq] at q0 q1 ⊢
    rw [hK] at k0 k1 ⊢
    have m1 : 0 ≤ p * K := Int.mul_nonneg p0 (by omega)
    have m2 : p * K ≤ p * 20 := Int.mul_le_mul_of_nonneg_left k1 p0
    have m3 : q * K ≤ q * 20 := Int.mul_le_mul_of_nonneg_left k1 (by omega)
    have m4 : 1 * 1 ≤ q * K := Int.mul_le_mul q0 k0 (by omega) (by omega)
    have n1 := fr_le (n := p * K + q) (m := q * K) (by omega)
    have n2 := fr_pos (n := p * K + q) (m := q * K) (by omega)
    have n3 := @fr_bd2 (p * K + q) (q * K) (q * K).natAbs (Nat.le_refl _)
    have e1 : (20 : Int) ^ (k + 1) = 20 ^ k * 20 := Int.pow_succ ..
    have e2 : ((k + 1 : Nat) : Int) * 20 ^ (k + 1) = (k : Int) * 20 ^ k * 20 + 20 ^ k * 20 := by
      rw [e1, Int.natCast_add, Int.add_mul]
      simp [Int.mul_assoc]
    have e3 : (0 : Int) < 20 ^ k := Int.pow_pos (by decide)
    refine ⟨n1.1, ?_, by omega, ?_⟩
    · rw [e2]; omega
    · rw [e1]; omega
theorem flex_bd {ks fs : List Int} (h : ChOk ks fs) {k : Nat} (hk : k ≤ ks.length) : 0 ≤ (flexP ks k).1 ∧ (flexP ks k).1 ≤ 384000000 ∧ 1 ≤ (flexP ks k).2 ∧ (flexP ks k).2 ≤ 64000000 := by
  obtain ⟨p0, p1, q0, q1⟩ := flex_ok h k hk
  have hk6 : k ≤ 6 := Nat.le_trans hk h.few
  rcases (by omega : k = 0 ∨ k = 1 ∨ k = 2 ∨ k = 3 ∨ k = 4 ∨ k = 5 ∨ k = 6) with rfl | rfl | rfl | rfl | rfl | rfl | rfl <;> simp at p1 q1 <;> omega

set_option maxHeartbeats 1600000 in
set_option maxRecDepth 100000 in
theorem StiffnessOf_ok (ks fs : List Int) (a1 a2 : Option Addr) (c1 c2 : Nat) (w : World) (h1 : ks.length ≤ 1000) (hr1 : Reads w a1 ks.length (ints ks)) (hr2 : Reads w a2 fs.length (ints fs)) (he : (chkC ks fs).2 = 0) :
    Calls Try.prog 22 #[.agg (chV a1 ks.length c1 a2 fs.length c2)] w fun e w' => e = .returned (.tuple #[.agg #[.int .i64 (flexP ks ks.length).2, .int .i64 (flexP ks ks.length).1], .int .i64 0]) ∧ Below w.heap.size w w' := by
  have HR1 := Lib.hid hr1
  have HR2 := Lib.hid hr2
  have HC := Lib.hid (fun W h3 h4 => chainErr_any ks fs a1 a2 c1 c2 W h1 h3 h4)
  rw [he] at HC
  have hok := chkC_zero he
  have HOK := Lib.hid hok
  have hn6 := hok.few
  clear hr1 hr2 he hok
  go_enter Try.func22, Try.ntmps22
  go_wp2_with fail
  refine (HC.out _ ((HR1.out.alloc _).alloc _) ((HR2.out.alloc _).alloc _)).mono ?_
  rintro e w1 ⟨rfl, hb⟩
  have K0 := Lib.hid (((Blk.new w (chV a1 ks.length c1 a2 fs.length c2) 24).alloc (.cells #[.int .i64 0, .int .i64 0] 55)).to hb)
  have K1 := Lib.hid ((Blk.newAt (B := w.heap.size + 1) (w.alloc (.cells (chV a1 ks.length c1 a2 fs.length c2) 24)) #[.int .i64 0, .int .i64 0] 55 (by simp)).to hb)
  have HB := Lib.hid (bThen (bAlloc (bAlloc (bSelf w) _) _) hb)
  clear hb
  go_upto_region 5 with (fail)
  obtain ⟨w2, hw2⟩ : ∃ w2, w1.alloc (.cells #[.int .i64 0, .int .i64 1] 55) = w2 := ⟨_, rfl⟩
  rw [hw2]
  have hb : Below w1.heap.size w1 w2 := by subst hw2; exact bAlloc (bSelf w1) _
  have K5 : Hid (Blk w2 w1.heap.size #[.int .i64 (flexP ks 0).1, .int .i64 (flexP ks 0).2]) := by subst hw2; exact Lib.hid (Blk.new w1 #[.int .i64 0, .int .i64 1] 55)
  have hsz : w.heap.size + 2 ≤ w1.heap.size := K1.out.1
  replace K0 := Lib.hid (K0.out.to hb)
  replace K1 := Lib.hid (K1.out.to hb)
  replace HB := Lib.hid (bThen HB.out hb)
  clear hb hw2
  obtain ⟨B5, hB5⟩ : ∃ b, w1.heap.size = b := ⟨_, rfl⟩
  rw [hB5] at K5 hsz ⊢
  clear hB5
  obtain ⟨-, k0, -⟩ := K0.out
  go_wp2_with fail
  clear k0
  go_loopw [18] (fun v wr => ∃ k : Nat, k ≤ ks.length ∧ v = .int .i64 k ∧ Hid (Blk wr B5 #[.int .i64 (flexP ks k).1, .int .i64 (flexP ks k).2]) ∧ Hid (Blk wr (w.heap.size + 1) #[.int .i64 0, .int .i64 0]) ∧ Hid (Below w.heap.size w wr)) (fun v _ => ks.length - (intOf v).toNat)
  case atStart => exact ⟨0, Nat.zero_le _, rfl, K5, K1, HB⟩
  case round =>
    obtain ⟨k, hk, rfl, k5, k1, hbel⟩ := hrel
    by_cases hlt : k < ks.length
    · have hltI : decide ((k : Int) < (ks.length : Int)) = true := decide_eq_true (by omega)
      obtain ⟨b, off, rfl, hb', hc'⟩ := HR1.out.at (k := k) hlt
      have kc : wr.cell? ⟨b, off + k, none⟩ = some (.int .i64 (gi ks k)) := (hbel.out.cell (p := ⟨b, off + k, none⟩) hb').trans (hc' k hlt)
      obtain ⟨g1, g2⟩ := HOK.out.k1 k hlt
      obtain ⟨p0, p1, q0, q1⟩ := flex_bd HOK.out (k := k) (by omega)
      have HE : Hid (flexP ks (k + 1) = fr ((flexP ks k).1 * gi ks k + (flexP ks k).2) ((flexP ks k).2 * gi ks k)) := Lib.hid rfl
      obtain ⟨p, hp⟩ : ∃ p, (flexP ks k).1 = p := ⟨_, rfl⟩
      obtain ⟨q, hq⟩ : ∃ p, (flexP ks k).2 = p := ⟨_, rfl⟩
      obtain ⟨K, hK⟩ : ∃ K, gi ks k = K := ⟨_, rfl⟩
      rw [hp] at p0 p1 HE k5
      rw [hq] at q0 q1 HE k5
      rw [hK] at g1 g2 HE kc
      have m1 := mul_bd (a := p) (b := K) (A := 384000000) (B := 20) (by omega) p1 (by omega) g2
      have m2 := mul_bd (a := q) (b := K) (A := 64000000) (B := 20) (by omega) q1 (by omega) g2
      obtain ⟨m11, m12⟩ := m1
      obtain ⟨m21, m22⟩ := m2
      have m3 : 1 * 1 ≤ q * K := Int.mul_le_mul q0 g1 (by omega) (by omega)
      have HF := Lib.hid (fun W => fraction_any (p * K + q) (q * K) W (by omega) (by omega) (by omega))
      obtain ⟨f1, hf1⟩ : ∃ f, (fr (p * K + q) (q * K)).1 = f := ⟨_, rfl⟩
      obtain ⟨f2, hf2⟩ : ∃ f, (fr (p * K + q) (q * K)).2 = f := ⟨_, rfl⟩
      rw [hf1, hf2] at HF
      have HF1 := Lib.hid hf1
      have HF2 := Lib.hid hf2
      clear hc' hp hq hK hf1 hf2 m3
      obtain ⟨-, k5c, -⟩ := k5.out
      go_wp2_with fail
      refine (HF.out _).mono ?_
      rintro e w3 ⟨rfl, hb⟩
      replace k5 := Lib.hid (k5.out.to hb)
      replace k1 := Lib.hid (k1.out.to hb)
      replace hbel := Lib.hid (bThen hbel.out hb)
      clear hb kc k5c
      obtain ⟨h5, k5c, f5⟩ := k5.out
      go_wp2_with fail
      go_roundw
      case rel =>
        refine ⟨k + 1, by omega, by go_num, Lib.hid ?_, Lib.hid ((k1.out.other (p := ⟨B5, 0, none⟩) (by dsimp only; omega) _).other (p := ⟨B5, 1, none⟩) (by dsimp only; omega) _), Lib.hid ((hbel.out.setCell (p := ⟨B5, 0, none⟩) (by dsimp only; omega) _).setCell (p := ⟨B5, 1, none⟩) (by dsimp only; omega) _)⟩
        rw [HE.out, HF1.out, HF2.out]
        exact (k5.out.set 0 _).set 1 _
      case measure => simp [intOf]; omega
    · have hke : k = ks.length := by omega
      have hltI : decide ((k : Int) < (ks.length : Int)) = false := decide_eq_false (by omega)
      have hltN : decide (k < ks.length) = false := decide_eq_false hlt
      have HKE := Lib.hid hke
      obtain ⟨p, hp⟩ : ∃ p, (flexP ks k).1 = p := ⟨_, rfl⟩
      obtain ⟨q, hq⟩ : ∃ p, (flexP ks k).2 = p := ⟨_, rfl⟩
      rw [hp, hq] at k5
      have HPQ := Lib.hid (And.intro hp hq)
      clear hke hp hq
      obtain ⟨-, k5c, -⟩ := k5.out
      obtain ⟨h1', k1c, f1⟩ := k1.out
      go_wp2_with fail
      clear k5c k1c f1
      have F := ((k1.out.set 0 (.int .i64 q)).set 1 (.int .i64 p)).2.1
      have F0 := F 0; have F1 := F 1
      clear F
      refine bodyPost_ret (v := .tuple #[.agg #[.int .i64 q, .int .i64 p], .int .i64 0]) ?_ rfl ⟨?_, ?_⟩
      · simp [results, Try.results22, go_sem, F0, F1]
      · rw [← HKE.out, HPQ.out.1, HPQ.out.2]
      · exact (hbel.out.setCell (p := ⟨w.heap.size + 1, 0, none⟩) (by dsimp only; omega) _).setCell (p := ⟨w.heap.size + 1, 1, none⟩) (by dsimp only; omega) _

end Go.Proofs.Ytmofgejoogikfaa

/-
  Contracts of the reference of chains: Above.
-/
namespace Go.Proofs.Ytmofgejoogikfaa
open Go.RowKit

/-- The sum of the forces from a node on, up to another. -/
def upTo (fs : List Int) (n : Nat) : Nat → Int
  | 0 => 0
  | j + 1 => upTo fs n j + gi fs (n + j)
end Go.Proofs.Ytmofgejoogikfaa

/-
  Contracts of the reference of chains: CheckChain.
-/
namespace Go.Proofs.Ytmofgejoogikfaa
open Go.RowKit

set_option maxHeartbeats 1600000 in
set_option maxRecDepth 100000 in
theorem rCheckChain_any (ks fs : List Int) (a1 a2 : Option Addr) (c1 c2 : Nat) (w : World) (h1 : ks.length ≤ 1000) (hr1 : Reads w a1 ks.length (ints ks)) (hr2 : Reads w a2 fs.length (ints fs)) :
    Calls Try.prog 43 #[.agg (chV a1 ks.length c1 a2 fs.length c2)] w fun e w' => e = .returned (.tuple #[.int .i64 (chkC ks fs).1, .int .i64 (chkC ks fs).2]) ∧ Below w.heap.size w w' := by
  have HR1 := Lib.hid hr1
  have HR2 := Lib.hid hr2
  clear hr1 hr2
  by_cases hz : ks.length = 0
  · have hC : chkC ks fs = (0, 10) := by
      have e : chE0 ks fs = 10 := by unfold chE0; rw [hz]; rfl
      unfold chkC; rw [e]; rfl
    rw [hC]
    have hq : ((ks.length : Int) == 0) = true := by rw [hz]; rfl
    clear hC hz
    go_enter Try.func43, Try.ntmps43
    go_wp2_with fail
    go_ret2
    exact ⟨rfl, bAlloc (bSelf w) _⟩
  · have hq : ((ks.length : Int) == 0) = false := beq_false_of_ne (by omega)
    by_cases hl : fs.length = ks.length
    · have hq2 : ((fs.length : Int) != (ks.length : Int)) = false := by rw [hl]; simp
      by_cases h6 : ks.length ≤ 6
      · have e : chE0 ks fs = 0 := by
          unfold chE0
          rw [hl, decide_eq_true (show (0 : Int) < ks.length by omega), decide_eq_true (show (ks.length : Int) ≤ 6 by omega)]
          simp [firstE, unl]
        have hC : chkC ks fs = eachR (nodE ks fs) 0 ks.length := by unfold chkC; rw [if_pos e]
        rw [hC]
        have h7 : decide ((6 : Int) < (ks.length : Int)) = false := decide_eq_false (by omega)
        have HL := Lib.hid hl
        clear e hC hz hl
        go_enter Try.func43, Try.ntmps43
        go_wp2_with fail
        clear hq hq2 h7
        obtain ⟨w1, hw1⟩ : ∃ w1, w.alloc (.cells (chV a1 ks.length c1 a2 fs.length c2) 24) = w1 := ⟨_, rfl⟩
        rw [hw1]
        have K0 : Hid (Blk w1 w.heap.size (chV a1 ks.length c1 a2 fs.length c2)) := by subst hw1; exact Lib.hid (Blk.new _ _ _)
        have HB : Hid (Below w.heap.size w w1) := by subst hw1; exact Lib.hid (bAlloc (bSelf w) _)
        clear hw1
        go_loopw [4] (fun iv wr => ∃ k : Nat, k ≤ ks.length ∧ iv = .int .i64 k ∧ Hid (eachR (nodE ks fs) 0 ks.length = eachR (nodE ks fs) k (ks.length - k)) ∧ Hid (w1 = wr)) (fun iv _ => ks.length - (intOf iv).toNat)
        case atStart => exact ⟨0, Nat.zero_le _, rfl, Lib.hid rfl, Lib.hid rfl⟩
        case round =>
          obtain ⟨k, hk, rfl, hr, hw⟩ := hrel
          replace K0 := Lib.hid (show Blk _ _ _ from hw.out ▸ K0.out)
          replace HB := Lib.hid (show Below _ _ _ from hw.out ▸ HB.out)
          obtain ⟨-, k0, -⟩ := K0.out
          by_cases hlt : k < ks.length
          · have hltI : decide ((k : Int) < (ks.length : Int)) = true := decide_eq_true (by omega)
            have hkf : k < fs.length := by rw [HL.out]; exact hlt
            obtain ⟨b, off, rfl, hb', hc'⟩ := HR1.out.at (k := k) hlt
            obtain ⟨b2, off2, rfl, hb2', hc2'⟩ := HR2.out.at (k := k) hkf
            have kc : wr.cell? ⟨b, off + k, none⟩ = some (.int .i64 (gi ks k)) := (HB.out.cell (p := ⟨b, off + k, none⟩) hb').trans (hc' k hlt)
            have kd : wr.cell? ⟨b2, off2 + k, none⟩ = some (.int .i64 (gi fs k)) := (HB.out.cell (p := ⟨b2, off2 + k, none⟩) hb2').trans (hc2' k hkf)
            have HE : Hid (nodE ks fs k = unl ((decide (1 ≤ gi ks k) && decide (gi ks k ≤ 20)) && (decide (-1000 ≤ gi fs k) && decide (gi fs k ≤ 1000))) 2) := Lib.hid rfl
            obtain ⟨x, hx⟩ : ∃ x, gi ks k = x := ⟨_, rfl⟩
            obtain ⟨y, hy⟩ : ∃ y, gi fs k = y := ⟨_, rfl⟩
            rw [hx] at kc HE
            rw [hy] at kd HE
            obtain ⟨p, hp⟩ : ∃ p, (decide (1 ≤ x) && decide (x ≤ 20)) = p := ⟨_, rfl⟩
            obtain ⟨q, hq⟩ : ∃ q, (decide (-1000 ≤ y) && decide (y ≤ 1000)) = q := ⟨_, rfl⟩
            have HW1 := Lib.hid (fun W => bWithin_any x 1 20 W)
            have HW2 := Lib.hid (fun W => bWithin_any y (-1000) 1000 W)
            rw [hp] at HW1 HE
            rw [hq] at HW2 HE
            have HST := Lib.hid (fun h0 => eachR_step (err := nodE ks fs) hlt h0)
            have HSP := Lib.hid (fun h0 => eachR_stop (err := nodE ks fs) hlt h0)
            clear hc' hc2' hx hy hp hq
            cases p with
            | false =>
              go_wp2_with fail
              refine (HW1.out _).mono ?_
              rintro e w' ⟨rfl, rfl⟩
              go_wp2_with fail
              go_ret2
              rw [Bool.false_and] at HE
              exact ⟨by rw [hr.out, HSP.out (by rw [HE.out]; decide), HE.out]; rfl, HB.out⟩
            | true =>
              cases q with
              | false =>
                go_wp2_with fail
                refine (HW1.out _).mono ?_
                rintro e w' ⟨rfl, rfl⟩
                go_wp2_with fail
                refine (HW2.out _).mono ?_
                rintro e w' ⟨rfl, rfl⟩
                go_wp2_with fail
                go_ret2
                exact ⟨by rw [hr.out, HSP.out (by rw [HE.out]; decide), HE.out]; rfl, HB.out⟩
              | true =>
                go_wp2_with fail
                refine (HW1.out _).mono ?_
                rintro e w' ⟨rfl, rfl⟩
                go_wp2_with fail
                refine (HW2.out _).mono ?_
                rintro e w' ⟨rfl, rfl⟩
                go_wp2_with fail
                go_roundw
                case rel => exact ⟨k + 1, by omega, by go_num, Lib.hid (hr.out.trans (HST.out (by rw [HE.out]; rfl))), hw⟩
                case measure => simp [intOf]; omega
          · have hltI : decide ((k : Int) < (ks.length : Int)) = false := decide_eq_false (by omega)
            have HE := Lib.hid (show ks.length - k = 0 by omega)
            go_wp2_with fail
            go_ret2
            exact ⟨by rw [hr.out, HE.out]; rfl, HB.out⟩
      · have hC : chkC ks fs = (0, 8) := by
          have e : chE0 ks fs = 8 := by
            unfold chE0
            rw [hl, decide_eq_true (show (0 : Int) < ks.length by omega), decide_eq_false (show ¬ (ks.length : Int) ≤ 6 by omega)]
            simp [firstE, unl]
          unfold chkC; rw [e]; rfl
        rw [hC]
        have h7 : decide ((6 : Int) < (ks.length : Int)) = true := decide_eq_true (by omega)
        clear hC hz hl
        go_enter Try.func43, Try.ntmps43
        go_wp2_with fail
        go_ret2
        exact ⟨rfl, bAlloc (bSelf w) _⟩
    · have hq2 : ((fs.length : Int) != (ks.length : Int)) = true := by simp; omega
      have hC : chkC ks fs = (0, 10) := by
        have e : chE0 ks fs = 10 := by
          unfold chE0
          have : ((fs.length : Int) == ks.length) = false := beq_false_of_ne (by omega)
          rw [this, Bool.and_false]; rfl
        unfold chkC; rw [e]; rfl
      rw [hC]
      clear hC hz hl
      go_enter Try.func43, Try.ntmps43
      go_wp2_with fail
      go_ret2
      exact ⟨rfl, bAlloc (bSelf w) _⟩

theorem rChainErr_any (ks fs : List Int) (a1 a2 : Option Addr) (c1 c2 : Nat) (w : World) (h1 : ks.length ≤ 1000) (hr1 : Reads w a1 ks.length (ints ks)) (hr2 : Reads w a2 fs.length (ints fs)) :
    Calls Try.prog 6 #[.agg (chV a1 ks.length c1 a2 fs.length c2)] w fun e w' => e = .returned (.int .i64 (chkC ks fs).2) ∧ Below w.heap.size w w' := by
  have HR1 := Lib.hid hr1
  have HR2 := Lib.hid hr2
  have HC := Lib.hid (fun W h3 h4 => rCheckChain_any ks fs a1 a2 c1 c2 W h1 h3 h4)
  obtain ⟨p, hp⟩ : ∃ p, chkC ks fs = p := ⟨_, rfl⟩
  rw [hp] at HC ⊢
  obtain ⟨p1, p2⟩ := p
  dsimp only at HC ⊢
  clear hr1 hr2 hp
  go_enter Try.func6, Try.ntmps6
  go_wp2_with fail
  refine (HC.out _ (HR1.out.alloc _) (HR2.out.alloc _)).mono ?_
  rintro e w1 ⟨rfl, hb⟩
  have HB := Lib.hid (bThen (bAlloc (bSelf w) _) hb)
  clear hb
  go_wp2_with fail
  go_ret
  exact ⟨rfl, HB.out⟩

end Go.Proofs.Ytmofgejoogikfaa

