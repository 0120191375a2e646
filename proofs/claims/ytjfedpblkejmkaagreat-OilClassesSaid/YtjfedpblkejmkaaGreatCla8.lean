/-
  Texts of this claim, in their build order: W4 W5 W6.
-/
import Derived.Test.YtjfedpblkejmkaaGreatCla7
import Derived.Test.YtjfedpblkejmkaaGreatCla5
import Derived.Test.YtjfedpblkejmkaaGreatCla6
import Derived.Test.YtjfedpblkejmkaaGreatCla0

namespace Go.Proofs.YtjfedpblkejmkaaGreat
section
open Go.RowKit

/-- One number against another. -/
def cmpI (m n : Nat) : Int := if m < n then -1 else if n < m then 1 else 0
theorem digs_lt {m n : Nat} (h : (digs m).length < (digs n).length) : m < n := by
  apply Classical.byContradiction
  intro hc
  have h1 := val_lt (digs_dig m)
  rw [val_digs] at h1
  have h2 : m < 1000000000 ^ (digs m).length := by
    have e : ((1000000000 ^ (digs m).length : Nat) : Int) = 1000000000 ^ (digs m).length := by simp
    rw [← e] at h1
    omega
  have h3 := digs_len (digs m).length n (by omega)
  omega
theorem val_split (l : List Int) (k : Nat) (hk : k < l.length) : val l = val (l.take k) + 1000000000 ^ k * gi l k + 1000000000 ^ (k + 1) * val (l.drop (k + 1)) := by
  conv => lhs; rw [← List.take_append_drop (k + 1) l, val_append, val_take_succ hk, List.length_take, Nat.min_eq_left (by omega)]
theorem pow_pos' (k : Nat) : (0 : Int) < 1000000000 ^ k := Int.pow_pos (by decide)
/-- The highest digit that differs decides. -/
theorem val_lt_at {l m : List Int} (hl : Dig l) (hm : Dig m) (hlen : l.length = m.length) {k : Nat} (hk : k < l.length) (h : ∀ j, k < j → j < l.length → gi l j = gi m j) (hlt : gi l k < gi m k) : val l < val m := by
  rw [val_split l k hk, val_split m k (by omega)]
  have e : l.drop (k + 1) = m.drop (k + 1) := by
    apply gi_ext
    · simp [hlen]
    · intro i hi
      rw [List.length_drop] at hi
      rw [gi_drop_at, gi_drop_at]
      exact h _ (by omega) (by omega)
  rw [e]
  have h1 := val_lt (hl.take k)
  rw [List.length_take, Nat.min_eq_left (by omega)] at h1
  have h2 := val_nonneg (hm.take k)
  have h3 : (1000000000 : Int) ^ k * (gi l k + 1) ≤ 1000000000 ^ k * gi m k := Int.mul_le_mul_of_nonneg_left (by omega) (Int.le_of_lt (pow_pos' k))
  rw [Int.mul_add, Int.mul_one] at h3
  omega

set_option maxHeartbeats 1000000 in
set_option maxRecDepth 100000 in
theorem cmpDigits_any (m n : Nat) (a b : Option Addr) (ca cb : Nat) (w : World) (hlm : (digs m).length ≤ 1000) (hra : Reads w a (digs m).length (ints (digs m))) (hrb : Reads w b (digs n).length (ints (digs n))) :
    Calls Tryz.prog 179 #[.slice a (digs m).length ca, .slice b (digs n).length cb] w fun e w' => e = .returned (.int .i64 (cmpI m n)) ∧ Below w.heap.size w w' := by
  have HLT : Hid ((digs m).length < (digs n).length → cmpI m n = -1) := zH (fun h => by unfold cmpI; rw [if_pos (digs_lt h)])
  have HGT : Hid ((digs n).length < (digs m).length → cmpI m n = 1) := zH (fun h => by
    have := digs_lt h
    unfold cmpI; rw [if_neg (by omega), if_pos this])
  have HAT : Hid ((digs m).length = (digs n).length → ∀ k, k < (digs m).length → (∀ j, k < j → j < (digs m).length → gi (digs m) j = gi (digs n) j) → (gi (digs m) k < gi (digs n) k → cmpI m n = -1) ∧ (gi (digs n) k < gi (digs m) k → cmpI m n = 1)) := zH (fun he k hk h => by
    constructor
    · intro hlt
      have := val_lt_at (digs_dig m) (digs_dig n) he hk h hlt
      rw [val_digs, val_digs] at this
      unfold cmpI; rw [if_pos (by omega)]
    · intro hlt
      have := val_lt_at (digs_dig n) (digs_dig m) he.symm (by omega) (fun j h1 h2 => (h j h1 (by omega)).symm) hlt
      rw [val_digs, val_digs] at this
      unfold cmpI; rw [if_neg (by omega), if_pos (by omega)])
  have HEQ : Hid ((digs m).length = (digs n).length → (∀ j, j < (digs m).length → gi (digs m) j = gi (digs n) j) → cmpI m n = 0) := zH (fun he h => by
    have e := gi_ext he h
    have h1 := val_digs m
    rw [e, val_digs] at h1
    unfold cmpI; rw [if_neg (by omega), if_neg (by omega)])
  have HDA := zH (digs_dig m)
  have HDB := zH (digs_dig n)
  obtain ⟨A, hA⟩ : ∃ A, digs m = A := ⟨_, rfl⟩
  obtain ⟨B, hB⟩ : ∃ B, digs n = B := ⟨_, rfl⟩
  obtain ⟨c, hc⟩ : ∃ c, cmpI m n = c := ⟨_, rfl⟩
  rw [hA] at HLT HGT HAT HEQ HDA hlm hra ⊢
  rw [hB] at HLT HGT HAT HEQ HDB hrb ⊢
  rw [hc] at HLT HGT HAT HEQ ⊢
  clear hA hB hc
  have HRA := zH hra
  have HRB := zH hrb
  clear hra hrb
  rcases Nat.lt_trichotomy A.length B.length with h | h | h
  · have h1 : ((A.length : Int) != (B.length : Int)) = true := by simp; omega
    have h2 : decide ((A.length : Int) < (B.length : Int)) = true := decide_eq_true (by omega)
    have HH := zH h
    go_enter Tryz.func179, Tryz.ntmps179
    go_wp2_with fail
    go_ret
    exact ⟨ret_int (HLT.out HH.out).symm, bSelf w⟩
  · have h1 : ((A.length : Int) != (B.length : Int)) = false := by simp; omega
    have HH := zH h
    clear h
    go_enter Tryz.func179, Tryz.ntmps179
    go_wp2_with fail
    clear h1
    go_loopw [5] (fun v wr => ∃ j : Nat, j ≤ A.length ∧ v = .int .i64 ((j : Int) - 1) ∧ Hid (∀ k, j ≤ k → k < A.length → gi A k = gi B k) ∧ Hid (Below w.heap.size w wr)) (fun v _ => (intOf v + 1).toNat)
    case atStart => exact ⟨A.length, Nat.le_refl _, rfl, zH (fun k h1 h2 => by omega), zH (bSelf w)⟩
    case round =>
      obtain ⟨j, hj, rfl, hz, hbel⟩ := hrel
      by_cases h0 : j = 0
      · have hv : (j : Int) - 1 = -1 := by omega
        have HJ := zH h0
        clear h0
        go_wp2_with fail
        go_ret
        exact ⟨ret_int (HEQ.out HH.out (fun k hk => hz.out k (by have := HJ.out; omega) hk)).symm, hbel.out⟩
      · obtain ⟨k, hk⟩ : ∃ k, j = k + 1 := ⟨j - 1, by omega⟩
        have hv : (j : Int) - 1 = (k : Int) := by omega
        obtain ⟨b1, o1, rfl, hb1', hc1⟩ := HRA.out.at (k := k) (by omega)
        obtain ⟨b2, o2, rfl, hb2', hc2⟩ := HRB.out.at (k := k) (by have := HH.out; omega)
        have c1 : Hid (wr.cell? ⟨b1, o1 + k, none⟩ = some (.int .i64 (gi A k))) := zH ((hbel.out.cell (p := ⟨b1, o1 + k, none⟩) hb1').trans (hc1 k (by omega)))
        have c2 : Hid (wr.cell? ⟨b2, o2 + k, none⟩ = some (.int .i64 (gi B k))) := zH ((hbel.out.cell (p := ⟨b2, o2 + k, none⟩) hb2').trans (hc2 k (by have := HH.out; omega)))
        have hs1 : b1 < wr.heap.size := Nat.lt_of_lt_of_le hb1' hbel.out.size
        have hs2 : b2 < wr.heap.size := Nat.lt_of_lt_of_le hb2' hbel.out.size
        have hkA : k < A.length := by omega
        have hkB : k < B.length := by have := HH.out; omega
        have HAK := zH (HAT.out HH.out k hkA (fun i h1 h2 => hz.out i (by omega) h2))
        have HK := zH hk
        clear hc1 hc2 hb1' hb2' hk h0
        go_upto_region 8 with (fail)
        refine wp_region_quiet_all (fun w' => Below (World.heap wr).size (wr) w') (by kernel_rfl) (by kernel_rfl) (Below.refl _ _).drew ?_
        refine WQ.out ?_
        repeat (first | (refine WQ_no (by rfl) ?_; (simp only [Act.put, zzT, zzO, zzS])) | (refine WQ_yes (by rfl) ?_; apply Exists.intro; refine ⟨fun w1 hb1 => ?_, ?_⟩; (focus (((have k1 := (hb1.cell (p := ⟨b1, o1 + k, none⟩) hs1).trans c1.out; have k2 := (hb1.cell (p := ⟨b2, o2 + k, none⟩) hs2).trans c2.out); have hb1 := zH hb1; go_simp); (try (go_bits; try go_simp)); (try (rw [if_pos (by omega)]; try go_simp)); (first | done | (with_reducible rfl) | exact rfl))); (simp only [Act.put, zzT, zzO, zzS])))
        refine WQ_nil ?_
        intro w1 hb1
        replace c1 := zH ((hb1.cell (p := ⟨b1, o1 + k, none⟩) hs1).trans c1.out)
        replace c2 := zH ((hb1.cell (p := ⟨b2, o2 + k, none⟩) hs2).trans c2.out)
        replace hbel := zH (bThen hbel.out hb1)
        replace hs1 : b1 < w1.heap.size := Nat.lt_of_lt_of_le hs1 hb1.size
        replace hs2 : b2 < w1.heap.size := Nat.lt_of_lt_of_le hs2 hb1.size
        clear hb1
        by_cases hl : gi A k < gi B k
        · have hl1 : decide (gi A k < gi B k) = true := decide_eq_true hl
          have HL := zH hl
          go_wp2_with fail
          go_ret
          exact ⟨ret_int (HAK.out.1 HL.out).symm, hbel.out⟩
        · have hl1 : decide (gi A k < gi B k) = false := decide_eq_false hl
          obtain ⟨wq, hwq⟩ : ∃ wq, wq = w1 := ⟨_, rfl⟩
          subst hwq
          go_upto_region 10 with (fail)
          refine wp_region_quiet_all (fun w' => Below (World.heap wq).size (wq) w') (by kernel_rfl) (by kernel_rfl) (Below.refl _ _).drew ?_
          refine WQ.out ?_
          repeat (first | (refine WQ_no (by rfl) ?_; (simp only [Act.put, zzT, zzO, zzS])) | (refine WQ_yes (by rfl) ?_; apply Exists.intro; refine ⟨fun w1 hb1 => ?_, ?_⟩; (focus (((have k1 := (hb1.cell (p := ⟨b1, o1 + k, none⟩) hs1).trans c1.out; have k2 := (hb1.cell (p := ⟨b2, o2 + k, none⟩) hs2).trans c2.out); have hb1 := zH hb1; go_simp); (try (go_bits; try go_simp)); (try (rw [if_pos (by omega)]; try go_simp)); (first | done | (with_reducible rfl) | exact rfl))); (simp only [Act.put, zzT, zzO, zzS])))
          refine WQ_nil ?_
          intro w1 hb1
          replace hbel := zH (bThen hbel.out hb1)
          clear hb1 hl1
          by_cases hg : gi B k < gi A k
          · have hg1 : decide (gi B k < gi A k) = true := decide_eq_true hg
            have HG := zH hg
            clear hl
            go_wp2_with fail
            go_ret
            exact ⟨ret_int (HAK.out.2 HG.out).symm, hbel.out⟩
          · have hg1 : decide (gi B k < gi A k) = false := decide_eq_false hg
            have HG := zH (show gi A k = gi B k by omega)
            clear hl
            go_wp2_with fail
            go_roundw
            case rel => exact ⟨k, by omega, by go_num, zH (fun i h1 h2 => by
              by_cases hi : i = k
              · rw [hi]; exact HG.out
              · exact hz.out i (by have := HK.out; omega) h2), hbel⟩
            case measure => simp [intOf]; have := HK.out; omega
  · have h1 : ((A.length : Int) != (B.length : Int)) = true := by simp; omega
    have h2 : decide ((A.length : Int) < (B.length : Int)) = false := decide_eq_false (by omega)
    have h3 : decide (A.length < B.length) = false := decide_eq_false (by omega)
    have HH := zH h
    go_enter Tryz.func179, Tryz.ntmps179
    go_wp2_with fail
    go_ret
    exact ⟨ret_int (HGT.out HH.out).symm, bSelf w⟩
end
section
open Go.RowKit

theorem sizeI_abs (n : Int) : sizeI n = (n.natAbs : Int) := by unfold sizeI; omega
theorem dg_int (n : Int) : (if n < 0 then (-1 : Int) else 1) * (n.natAbs : Int) = n := by split <;> omega
/-- A result cell of a number, written. -/
theorem RW.set2 {W : World} {a : Option Addr} {v : Value} {z : Int} (h : RW W a v z) {b : Nat} (hb : ∀ p, a = some p → b < p.block) (x y : Value) : RW ((W.setCell ⟨b, 0, none⟩ x).setCell ⟨b, 1, none⟩ y) a v z := by
  obtain ⟨cap, h1, h2, h3⟩ := h
  refine ⟨cap, h1, h2, (h3.other ⟨b, 0, none⟩ x ?_).other ⟨b, 1, none⟩ y ?_⟩
  all_goals
    intro c off e
    have := hb _ e
    dsimp only at this ⊢
    omega

theorem RW.set2' {W : World} {a : Option Addr} {v : Value} {z : Int} (h : RW W a v z) {b : Nat} (hb : Loc (fun c => c ≠ b) a z) (x y : Value) : RW ((W.setCell ⟨b, 0, none⟩ x).setCell ⟨b, 1, none⟩ y) a v z := by
  by_cases hn : dg z = []
  · exact h.keep (fun _ => .inl (by rw [hn]; rfl))
  · obtain ⟨cap, h1, h2, h3⟩ := h
    refine ⟨cap, h1, h2, (h3.other ⟨b, 0, none⟩ x ?_).other ⟨b, 1, none⟩ y ?_⟩
    all_goals
      intro c off e
      exact hb hn _ e

set_option maxHeartbeats 1600000 in
set_option maxRecDepth 100000 in
theorem WideOf_any (n : Int) (w : World) (hn1 : -9223372036854775808 ≤ n) (hn2 : n ≤ 9223372036854775807) :
    Calls Tryz.prog 154 #[.int .i64 n] w fun e w1 => WPost [] n w e w1 := by
  have hlen3 : (digs n.natAbs).length ≤ 3 := digs_len 3 n.natAbs (by omega)
  obtain ⟨s, hs⟩ : ∃ s : Int, (if n < 0 then (-1 : Int) else 1) = s := ⟨_, rfl⟩
  have hs1 : s = 1 ∨ s = -1 := by rw [← hs]; split <;> simp
  have hsn := dg_int n
  rw [hs] at hsn
  go_enter Tryz.func154, Tryz.ntmps154
  go_upto_if 6 with (fail)
  go_cut [3] (fun s3 wc => s3 = .int .i64 s ∧ w.alloc (.cells #[.int .i64 0, .slice none 0 0] 110) = wc)
  case first =>
    by_cases h : n < 0
    · have h1 : decide (n < 0) = true := decide_eq_true h
      rw [if_pos h] at hs
      subst hs
      go_wp2_with fail
      go_meet
      case rel => exact ⟨rfl, rfl⟩
    · have h1 : decide (n < 0) = false := decide_eq_false h
      rw [if_neg h] at hs
      subst hs
      go_wp2_with fail
      go_meet
      case rel => exact ⟨rfl, rfl⟩
  case rest =>
    obtain ⟨rfl, hwc⟩ := hcut
    have K0 : Hid (Blk wc w.heap.size #[.int .i64 0, .slice none 0 0]) := by subst hwc; exact zH (Blk.new _ _ _)
    have HB : Hid (Below w.heap.size w wc) := by subst hwc; exact zH (bAlloc (bSelf w) _)
    have hsz : w.heap.size < wc.heap.size := K0.out.1
    clear hwc hs
    obtain ⟨W, hW⟩ : ∃ W, W = wc := ⟨_, rfl⟩
    subst hW
    have HSN := zH hsn
    have HS1 := zH hs1
    clear hsn hs1
    obtain ⟨N, hN⟩ : ∃ N, digs n.natAbs = N := ⟨_, rfl⟩
    rw [hN] at hlen3
    have HN := zH hN
    clear hN
    go_upto_region 5 with (fail)
    go_loopw [0, 4] (fun v0 v wr => ∃ (c : Int) (pre : List Int), v0 = .int .i64 c ∧ -9223372036854775808 ≤ c ∧ c ≤ 9223372036854775807 ∧ Hid (N = pre ++ digs c.natAbs) ∧ Hid (wr.ownsRow W.heap.size 3 1 v pre.length (pre.map fun z => Value.int .i64 z)) ∧ Hid (Below W.heap.size W wr)) (fun v0 _ _ => (intOf v0).natAbs)
    case atStart => exact ⟨n, [], rfl, hn1, hn2, zH (by rw [← HN.out]; rfl), zH (World.ownsRow_nil _ _ _ _), zH (bSelf W)⟩
    case round =>
      obtain ⟨c, pre, rfl, hc1, hc2, hpre, hrow, hbel⟩ := hrel
      have hpl : pre.length ≤ 3 := by
        have := congrArg List.length hpre.out
        rw [List.length_append] at this
        omega
      by_cases h0 : c = 0
      · have hc0 : (c != 0) = false := by simpa using h0
        obtain ⟨a1, cap1, rfl, hcp, hrd, hfr⟩ := Reads.of_owns' (zs := pre) hrow.out
        have hpe : N = pre := by rw [hpre.out, h0]; simp [digs_zero]
        subst hpe
        have hdig : Dig N := by rw [← HN.out]; exact digs_dig _
        have hval : val N = (n.natAbs : Int) := by rw [← HN.out]; exact val_digs _
        have HWO := zH (fun W h => wideOf_any s N a1 cap1 W hdig (by rcases HS1.out with h | h; exact .inl h; exact .inr (.inl h)) (by omega) hcp h)
        rw [hval, HSN.out] at HWO
        have HRD := zH hrd
        have HFR := zH hfr
        replace K0 := zH (K0.out.to hbel.out)
        replace HB := zH (bThen HB.out hbel.out)
        clear hrow hfr hrd hval hdig h0 hpre
        go_wp2_with fail
        refine (HWO.out _ HRD.out).mono ?_
        rintro e w2 ⟨v2, rfl, hv2, hb⟩
        have HV2 := zH hv2
        obtain ⟨cap2, rfl, hc2', -⟩ := hv2
        replace K0 := zH (K0.out.to hb)
        replace HB := zH (bThen HB.out hb)
        clear hb
        have HP : Hid (∀ (w' : World) (e : Ending), w' = (w2.setCell ⟨w.heap.size, 0, none⟩ (.int .i64 n.sign)).setCell ⟨w.heap.size, 1, none⟩ (.slice a1 (dg n).length cap2) → e = .returned (.agg #[.int .i64 n.sign, .slice a1 (dg n).length cap2]) → WPost [] n w e w') := zH (fun w' e hw he => by
          subst hw
          refine ⟨a1, _, he, HV2.out.set2 (fun p hp => Nat.lt_of_lt_of_le hsz (HFR.out p hp)) _ _, ?_, fun P hf _ _ p hp => hf _ (Nat.le_trans (Nat.le_of_lt hsz) (HFR.out p hp))⟩
          exact (HB.out.setCell (p := ⟨w.heap.size, 0, none⟩) (Nat.le_refl _) _).setCell (p := ⟨w.heap.size, 1, none⟩) (Nat.le_refl _) _)
        clear HV2 hc2'
        obtain ⟨sg, hsg⟩ : ∃ s, n.sign = s := ⟨_, rfl⟩
        obtain ⟨D, hD⟩ : ∃ D, dg n = D := ⟨_, rfl⟩
        rw [hsg, hD] at HP ⊢
        clear hsg hD
        obtain ⟨h1, k1, f1⟩ := K0.out
        go_wp2_with fail
        clear k1 f1
        have F := ((K0.out.set 0 (.int .i64 sg)).set 1 (.slice a1 D.length cap2)).2.1
        have F0 := F 0; have F1 := F 1
        clear F
        refine bodyPost_ret (v := .agg #[.int .i64 sg, .slice a1 D.length cap2]) ?_ rfl (HP.out _ _ rfl rfl)
        simp [results, Tryz.results154, go_sem, F0, F1]
      · have hc0 : (c != 0) = true := by simpa using h0
        obtain ⟨d, hd⟩ : ∃ d, sizeI (c.tmod 1000000000) = d := ⟨_, rfl⟩
        have hm : (c.tmod 1000000000).natAbs = c.natAbs % 1000000000 := by rw [Int.natAbs_tmod]; rfl
        have hq : (c.tdiv 1000000000).natAbs = c.natAbs / 1000000000 := by rw [Int.natAbs_tdiv]; rfl
        have hdn : d = ((c.natAbs % 1000000000 : Nat) : Int) := by rw [← hd, sizeI_abs, hm]
        have HD := zH hdn
        have hm1 : -1000000000 ≤ c.tmod 1000000000 ∧ c.tmod 1000000000 ≤ 1000000000 := by omega
        have hq1 : -9223372036854775808 ≤ c.tdiv 1000000000 ∧ c.tdiv 1000000000 ≤ 9223372036854775807 := by omega
        obtain ⟨hm1, hm2⟩ := hm1
        obtain ⟨hq1, hq2⟩ := hq1
        have HSZ := zH (fun W => Size_any (c.tmod 1000000000) W (by omega) (by omega))
        rw [hd] at HSZ
        have HDG := zH (digs_pos (n := c.natAbs) (by omega))
        have HQ := zH hq
        have hlt : c.natAbs / 1000000000 < c.natAbs := Nat.div_lt_self (by omega) (by decide)
        have HLT := zH hlt
        clear hd hm hq hdn hlt
        have HROW := zH (hrow.out.alloc (.cells #[.int .i64 d] 3))
        have HNN := zH (Blk.new wr #[.int .i64 d] 3).news
        have hlo := zH hrow.out.lt
        have hwr : W.heap.size ≤ wr.heap.size := hbel.out.size
        go_wp2_with (first | (go_at_call 175; refine (HSZ.out _).mono ?_; rintro e w' ⟨rfl, rfl⟩) | (at_builtin; refine wpList_app W.heap.size rtInt rfl (.tmp 9) (.tmp 13) rfl _ _ _ rfl HROW.out ⟨wr.heap.size, 0, none⟩ 1 1 [.int .i64 d] rfl rfl HNN.out (ones [d]) (by unfold maxLen; omega) (by omega) (by simp; omega) ?_; intro v' w4 hown' hgrow _ _; have HO := zH hown'; have HG := zH hgrow; clear hown' hgrow))
        go_roundw
        case rel =>
          refine ⟨c.tdiv 1000000000, pre ++ [d], rfl, hq1, hq2, zH ?_, zH ?_, zH ?_⟩
          · rw [hpre.out, HDG.out, HQ.out, HD.out]; simp
          · rw [List.length_append, List.map_append]
            exact HO.out
          · exact (hbel.out.alloc hwr _).grown HG.out (by simp; omega) (fun k e => (hlo.out k e).1)
        case measure => simp [intOf]; exact HLT.out
end
section
open Go.RowKit

/-- A list of digits in new memory. -/
def DPost (P : List Int → Prop) (w : World) (e : Ending) (w' : World) : Prop :=
  ∃ (out : List Int) (a' : Option Addr) (cap' : Nat), e = .returned (.slice a' out.length cap') ∧ P out ∧ out.length ≤ cap' ∧ Reads w' a' out.length (ints out) ∧ Below w.heap.size w w' ∧ ∀ p, a' = some p → w.heap.size ≤ p.block

theorem val_take_more (l : List Int) (k : Nat) : val (l.take (k + 1)) = val (l.take k) + 1000000000 ^ k * gi l k := by
  by_cases hk : k < l.length
  · exact val_take_succ hk
  · rw [gi_none (by omega), List.take_of_length_le (by omega), List.take_of_length_le (by omega)]; simp

set_option maxHeartbeats 1600000 in
set_option maxRecDepth 100000 in
theorem addDigits_any (A B : List Int) (a b : Option Addr) (ca cb : Nat) (w : World) (hA : Dig A) (hB : Dig B) (hlA : A.length ≤ 400) (hlB : B.length ≤ 400) (hra : Reads w a A.length (ints A)) (hrb : Reads w b B.length (ints B)) :
    Calls Tryz.prog 201 #[.slice a A.length ca, .slice b B.length cb] w fun e w1 => DPost (fun out => Dig out ∧ val out = val A + val B ∧ out.length ≤ A.length + B.length + 1) w e w1 := by
  have HDA := zH hA
  have HDB := zH hB
  have HRA := zH hra
  have HRB := zH hrb
  clear hA hB hra hrb
  go_enter Tryz.func201, Tryz.ntmps201
  go_wp2_with fail
  go_loopw [5, 6, 7] (fun v cv iv wr => ∃ (i : Nat) (c : Int) (out : List Int), iv = .int .i64 i ∧ cv = .int .i64 c ∧ 0 ≤ c ∧ c ≤ 1 ∧ i ≤ A.length + B.length + 1 ∧ Hid (out.length = i) ∧ Hid (Dig out) ∧ Hid (val out + 1000000000 ^ i * c = val (A.take i) + val (B.take i)) ∧ Hid (A.length ≤ i → B.length ≤ i → 0 < c → i ≤ A.length + B.length) ∧
      Hid (wr.ownsRow w.heap.size 3 1 v out.length (out.map fun z => Value.int .i64 z)) ∧ Hid (Below w.heap.size w wr)) (fun _ _ iv _ => A.length + B.length + 2 - (intOf iv).toNat)
  case atStart => exact ⟨0, 0, [], rfl, rfl, by omega, by omega, by omega, zH rfl, zH Dig.nil, zH (by simp [val]), zH (fun _ _ h => by omega), zH (World.ownsRow_nil _ _ _ _), zH (bSelf w)⟩
  case round =>
    obtain ⟨i, c, out, rfl, rfl, hc0, hc1, hi, hol, hod, hov, hoc, hrow, hbel⟩ := hrel
    replace HRA := zH (HRA.out.to hbel.out)
    replace HRB := zH (HRB.out.to hbel.out)
    have hda := HDA.out.at i
    have hdb := HDB.out.at i
    have HSA := zH (val_take_more A i)
    have HSB := zH (val_take_more B i)
    have HGA := zH (fun h => gi_none (l := A) (i := i) h)
    have HGB := zH (fun h => gi_none (l := B) (i := i) h)
    have HCA := zH (fun W h => digit_any A a ca i W h)
    have HCB := zH (fun W h => digit_any B b cb i W h)
    obtain ⟨x, hx⟩ : ∃ x, gi A i = x := ⟨_, rfl⟩
    obtain ⟨y, hy⟩ : ∃ y, gi B i = y := ⟨_, rfl⟩
    rw [hx] at hda HSA HCA HGA
    rw [hy] at hdb HSB HCB HGB
    clear hx hy
    obtain ⟨x0, x1⟩ := hda
    obtain ⟨y0, y1⟩ := hdb
    go_upto_region 4 with (fail)
    go_cut [22] (fun s22 wd => s22 = .bool (decide (i < A.length ∨ i < B.length ∨ 0 < c)) ∧ wr = wd)
    case first =>
      by_cases h1 : i < A.length
      · have e1 : decide (i < A.length ∨ i < B.length ∨ 0 < c) = true := decide_eq_true (.inl h1)
        have e2 : decide ((i : Int) < (A.length : Int)) = true := decide_eq_true (by omega)
        go_wp2_with fail
        go_meet
        case rel => exact ⟨by rw [e1], rfl⟩
      · have e2 : decide ((i : Int) < (A.length : Int)) = false := decide_eq_false (by omega)
        by_cases h2 : i < B.length
        · have e1 : decide (i < A.length ∨ i < B.length ∨ 0 < c) = true := decide_eq_true (.inr (.inl h2))
          have e3 : decide ((i : Int) < (B.length : Int)) = true := decide_eq_true (by omega)
          go_wp2_with fail
          go_meet
          case rel => exact ⟨by rw [e1], rfl⟩
        · have e3 : decide ((i : Int) < (B.length : Int)) = false := decide_eq_false (by omega)
          have e1 : decide (i < A.length ∨ i < B.length ∨ 0 < c) = decide (0 < c) := by simp [h1, h2]
          go_wp2_with fail
          go_meet
          case rel => exact ⟨by rw [e1], rfl⟩
    case rest =>
      obtain ⟨rfl, rfl⟩ := hcut
      by_cases hg : i < A.length ∨ i < B.length ∨ 0 < c
      · have hg1 : decide (i < A.length ∨ i < B.length ∨ 0 < c) = true := decide_eq_true hg
        rw [hg1]
        have HG := zH hg
        clear hg hg1
        obtain ⟨d, hd⟩ : ∃ d, (x + y + c) % 1000000000 = d := ⟨_, rfl⟩
        obtain ⟨q, hq⟩ : ∃ q, (x + y + c) / 1000000000 = q := ⟨_, rfl⟩
        have hd' : (x + y + c).tmod 1000000000 = d := by rw [Int.tmod_eq_emod_of_nonneg (by omega)]; exact hd
        have hq' : (x + y + c).tdiv 1000000000 = q := by rw [Int.tdiv_eq_ediv_of_nonneg (by omega)]; exact hq
        have hdq : x + y + c = d + 1000000000 * q ∧ 0 ≤ d ∧ d < 1000000000 ∧ 0 ≤ q ∧ q ≤ 1 := by omega
        obtain ⟨e, d0, d1, q0, q1⟩ := hdq
        have HE := zH e
        clear e hd hq
        have HROW := zH (hrow.out.alloc (.cells #[.int .i64 d] 3))
        have HNN := zH (Blk.new wr #[.int .i64 d] 3).news
        have hlo := zH hrow.out.lt
        have hwr : w.heap.size ≤ wr.heap.size := hbel.out.size
        have hio : i ≤ A.length + B.length := by
          by_cases h1 : A.length ≤ i ∧ B.length ≤ i
          · exact hoc.out h1.1 h1.2 (by rcases HG.out with h | h | h <;> omega)
          · omega
        have hol' := hol.out
        go_wp2_with fail
        refine (HCA.out _ HRA.out).mono ?_
        rintro e w' ⟨rfl, rfl⟩
        go_wp2_with fail
        refine (HCB.out _ HRB.out).mono ?_
        rintro e w' ⟨rfl, rfl⟩
        go_wp2_with (at_builtin; refine wpList_app w.heap.size rtInt rfl (.tmp 34) (.tmp 37) rfl _ _ _ rfl HROW.out ⟨wr.heap.size, 0, none⟩ 1 1 [.int .i64 d] rfl rfl HNN.out (ones [d]) (by unfold maxLen; omega) (by omega) (by simp; omega) ?_; intro v' w4 hown' hgrow _ _; have HO := zH hown'; have HGR := zH hgrow; clear hown' hgrow)
        go_roundw
        case rel =>
          refine ⟨i + 1, q, out ++ [d], by go_num, rfl, q0, q1, by omega, zH (by simp; omega), zH (hod.out.append (Dig.cons d0 d1 Dig.nil)), zH ?_, zH (fun h1 h2 h3 => ?_), zH ?_, zH ?_⟩
          · have e1 := congrArg (fun t => (1000000000 : Int) ^ i * t) HE.out
            simp only [Int.mul_add] at e1
            have e2 : (1000000000 : Int) ^ i * (1000000000 * q) = 1000000000 ^ (i + 1) * q := by rw [Int.pow_succ, Int.mul_assoc]
            rw [e2] at e1
            have e3 := hov.out
            rw [val_snoc, hol', HSA.out, HSB.out]
            omega
          · by_cases h4 : A.length ≤ i ∧ B.length ≤ i
            · have := HGA.out h4.1; have := HGB.out h4.2; have := HE.out; omega
            · omega
          · rw [List.length_append, List.map_append]
            exact HO.out
          · exact (hbel.out.alloc hwr _).grown HGR.out (by simp; omega) (fun k e => (hlo.out k e).1)
        case measure => simp [intOf]; omega
      · have hg1 : decide (i < A.length ∨ i < B.length ∨ 0 < c) = false := decide_eq_false hg
        rw [hg1]
        have hAB : A.length ≤ i ∧ B.length ≤ i ∧ c = 0 := by
          refine ⟨?_, ?_, ?_⟩
          · exact Nat.le_of_not_lt (fun h => hg (.inl h))
          · exact Nat.le_of_not_lt (fun h => hg (.inr (.inl h)))
          · have : ¬ 0 < c := fun h => hg (.inr (.inr h))
            omega
        have HAB := zH hAB
        obtain ⟨a1, cap1, rfl, hcp, hrd, hfr⟩ := Reads.of_owns' (zs := out) hrow.out
        have HRD := zH hrd
        have HFR := zH hfr
        clear hg hg1 hAB hrow hrd hfr
        go_wp2_with fail
        go_ret
        refine ⟨out, a1, cap1, rfl, ⟨hod.out, ?_, by have := hol.out; omega⟩, hcp, HRD.out, hbel.out, HFR.out⟩
        have e := hov.out
        obtain ⟨h1, h2, h3⟩ := HAB.out
        rw [h3, Int.mul_zero, Int.add_zero, val_take_all h1, val_take_all h2] at e
        exact e
end
end Go.Proofs.YtjfedpblkejmkaaGreat
