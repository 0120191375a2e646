/-
  Texts of this claim, in their build order: W5 W6 W7.
-/
import Derived.Test.YtbpcapcgbnbknaaGreatOne9
import Derived.Test.YtbpcapcgbnbknaaGreatOne0

namespace Go.Proofs.YtbpcapcgbnbknaaGreat
section
open Go.RowKit

theorem sizeI_abs (n : Int) : sizeI n = (n.natAbs : Int) := by unfold sizeI; omega
theorem dg_int (n : Int) : (if n < 0 then (-1 : Int) else 1) * (n.natAbs : Int) = n := by split <;> omega
/-- A result cell of a number, written. -/
theorem RW.set2 {W : World} {a : Option Addr} {v : Value} {z : Int} (h : RW W a v z) {b : Nat} (hb : ∀ p, a = some p → b < p.block) (x y : Value) : RW ((W.setCell ⟨b, 0, none⟩ x).setCell ⟨b, 1, none⟩ y) a v z := by
  obtain ⟨cap, h1, h2, h3⟩ := h
  refine ⟨cap, h1, h2, (h3.other ⟨b, 0, none⟩ x ?_).other ⟨b, 1, none⟩ y ?_⟩
  all_goals
    intro c off e
    have := hb _ e
    dsimp only at this ⊢
    omega

theorem RW.set2' {W : World} {a : Option Addr} {v : Value} {z : Int} (h : RW W a v z) {b : Nat} (hb : Loc (fun c => c ≠ b) a z) (x y : Value) : RW ((W.setCell ⟨b, 0, none⟩ x).setCell ⟨b, 1, none⟩ y) a v z := by
  by_cases hn : dg z = []
  · exact h.keep (fun _ => .inl (by rw [hn]; rfl))
  · obtain ⟨cap, h1, h2, h3⟩ := h
    refine ⟨cap, h1, h2, (h3.other ⟨b, 0, none⟩ x ?_).other ⟨b, 1, none⟩ y ?_⟩
    all_goals
      intro c off e
      exact hb hn _ e

set_option maxHeartbeats 1600000 in
set_option maxRecDepth 100000 in
theorem WideOf_any (n : Int) (w : World) (hn1 : -9223372036854775808 ≤ n) (hn2 : n ≤ 9223372036854775807) :
    Calls Tryz.prog 121 #[.int .i64 n] w fun e w1 => WPost [] n w e w1 := by
  have hlen3 : (digs n.natAbs).length ≤ 3 := digs_len 3 n.natAbs (by omega)
  obtain ⟨s, hs⟩ : ∃ s : Int, (if n < 0 then (-1 : Int) else 1) = s := ⟨_, rfl⟩
  have hs1 : s = 1 ∨ s = -1 := by rw [← hs]; split <;> simp
  have hsn := dg_int n
  rw [hs] at hsn
  go_enter Tryz.func121, Tryz.ntmps121
  go_upto_if 6 with (fail)
  go_cut [3] (fun s3 wc => s3 = .int .i64 s ∧ w.alloc (.cells #[.int .i64 0, .slice none 0 0] 63) = wc)
  case first =>
    by_cases h : n < 0
    · have h1 : decide (n < 0) = true := decide_eq_true h
      rw [if_pos h] at hs
      subst hs
      go_wp2_with fail
      go_meet
      case rel => exact ⟨rfl, rfl⟩
    · have h1 : decide (n < 0) = false := decide_eq_false h
      rw [if_neg h] at hs
      subst hs
      go_wp2_with fail
      go_meet
      case rel => exact ⟨rfl, rfl⟩
  case rest =>
    obtain ⟨rfl, hwc⟩ := hcut
    have K0 : Hid (Blk wc w.heap.size #[.int .i64 0, .slice none 0 0]) := by subst hwc; exact zH (Blk.new _ _ _)
    have HB : Hid (Below w.heap.size w wc) := by subst hwc; exact zH (bAlloc (bSelf w) _)
    have hsz : w.heap.size < wc.heap.size := K0.out.1
    clear hwc hs
    obtain ⟨W, hW⟩ : ∃ W, W = wc := ⟨_, rfl⟩
    subst hW
    have HSN := zH hsn
    have HS1 := zH hs1
    clear hsn hs1
    obtain ⟨N, hN⟩ : ∃ N, digs n.natAbs = N := ⟨_, rfl⟩
    rw [hN] at hlen3
    have HN := zH hN
    clear hN
    go_upto_region 5 with (fail)
    go_loopw [0, 4] (fun v0 v wr => ∃ (c : Int) (pre : List Int), v0 = .int .i64 c ∧ -9223372036854775808 ≤ c ∧ c ≤ 9223372036854775807 ∧ Hid (N = pre ++ digs c.natAbs) ∧ Hid (wr.ownsRow W.heap.size 3 1 v pre.length (pre.map fun z => Value.int .i64 z)) ∧ Hid (Below W.heap.size W wr)) (fun v0 _ _ => (intOf v0).natAbs)
    case atStart => exact ⟨n, [], rfl, hn1, hn2, zH (by rw [← HN.out]; rfl), zH (World.ownsRow_nil _ _ _ _), zH (bSelf W)⟩
    case round =>
      obtain ⟨c, pre, rfl, hc1, hc2, hpre, hrow, hbel⟩ := hrel
      have hpl : pre.length ≤ 3 := by
        have := congrArg List.length hpre.out
        rw [List.length_append] at this
        omega
      by_cases h0 : c = 0
      · have hc0 : (c != 0) = false := by simpa using h0
        obtain ⟨a1, cap1, rfl, hcp, hrd, hfr⟩ := Reads.of_owns' (zs := pre) hrow.out
        have hpe : N = pre := by rw [hpre.out, h0]; simp [digs_zero]
        subst hpe
        have hdig : Dig N := by rw [← HN.out]; exact digs_dig _
        have hval : val N = (n.natAbs : Int) := by rw [← HN.out]; exact val_digs _
        have HWO := zH (fun W h => wideOf_any s N a1 cap1 W hdig (by rcases HS1.out with h | h; exact .inl h; exact .inr (.inl h)) (by omega) hcp h)
        rw [hval, HSN.out] at HWO
        have HRD := zH hrd
        have HFR := zH hfr
        replace K0 := zH (K0.out.to hbel.out)
        replace HB := zH (bThen HB.out hbel.out)
        clear hrow hfr hrd hval hdig h0 hpre
        go_wp2_with fail
        refine (HWO.out _ HRD.out).mono ?_
        rintro e w2 ⟨v2, rfl, hv2, hb⟩
        have HV2 := zH hv2
        obtain ⟨cap2, rfl, hc2', -⟩ := hv2
        replace K0 := zH (K0.out.to hb)
        replace HB := zH (bThen HB.out hb)
        clear hb
        have HP : Hid (∀ (w' : World) (e : Ending), w' = (w2.setCell ⟨w.heap.size, 0, none⟩ (.int .i64 n.sign)).setCell ⟨w.heap.size, 1, none⟩ (.slice a1 (dg n).length cap2) → e = .returned (.agg #[.int .i64 n.sign, .slice a1 (dg n).length cap2]) → WPost [] n w e w') := zH (fun w' e hw he => by
          subst hw
          refine ⟨a1, _, he, HV2.out.set2 (fun p hp => Nat.lt_of_lt_of_le hsz (HFR.out p hp)) _ _, ?_, fun P hf _ _ p hp => hf _ (Nat.le_trans (Nat.le_of_lt hsz) (HFR.out p hp))⟩
          exact (HB.out.setCell (p := ⟨w.heap.size, 0, none⟩) (Nat.le_refl _) _).setCell (p := ⟨w.heap.size, 1, none⟩) (Nat.le_refl _) _)
        clear HV2 hc2'
        obtain ⟨sg, hsg⟩ : ∃ s, n.sign = s := ⟨_, rfl⟩
        obtain ⟨D, hD⟩ : ∃ D, dg n = D := ⟨_, rfl⟩
        rw [hsg, hD] at HP ⊢
        clear hsg hD
        obtain ⟨h1, k1, f1⟩ := K0.out
        go_wp2_with fail
        clear k1 f1
        have F := ((K0.out.set 0 (.int .i64 sg)).set 1 (.slice a1 D.length cap2)).2.1
        have F0 := F 0; have F1 := F 1
        clear F
        refine bodyPost_ret (v := .agg #[.int .i64 sg, .slice a1 D.length cap2]) ?_ rfl (HP.out _ _ rfl rfl)
        simp [results, Tryz.results121, go_sem, F0, F1]
      · have hc0 : (c != 0) = true := by simpa using h0
        obtain ⟨d, hd⟩ : ∃ d, sizeI (c.tmod 1000000000) = d := ⟨_, rfl⟩
        have hm : (c.tmod 1000000000).natAbs = c.natAbs % 1000000000 := by rw [Int.natAbs_tmod]; rfl
        have hq : (c.tdiv 1000000000).natAbs = c.natAbs / 1000000000 := by rw [Int.natAbs_tdiv]; rfl
        have hdn : d = ((c.natAbs % 1000000000 : Nat) : Int) := by rw [← hd, sizeI_abs, hm]
        have HD := zH hdn
        have hm1 : -1000000000 ≤ c.tmod 1000000000 ∧ c.tmod 1000000000 ≤ 1000000000 := by omega
        have hq1 : -9223372036854775808 ≤ c.tdiv 1000000000 ∧ c.tdiv 1000000000 ≤ 9223372036854775807 := by omega
        obtain ⟨hm1, hm2⟩ := hm1
        obtain ⟨hq1, hq2⟩ := hq1
        have HSZ := zH (fun W => Size_any (c.tmod 1000000000) W (by omega) (by omega))
        rw [hd] at HSZ
        have HDG := zH (digs_pos (n := c.natAbs) (by omega))
        have HQ := zH hq
        have hlt : c.natAbs / 1000000000 < c.natAbs := Nat.div_lt_self (by omega) (by decide)
        have HLT := zH hlt
        clear hd hm hq hdn hlt
        have HROW := zH (hrow.out.alloc (.cells #[.int .i64 d] 3))
        have HNN := zH (Blk.new wr #[.int .i64 d] 3).news
        have hlo := zH hrow.out.lt
        have hwr : W.heap.size ≤ wr.heap.size := hbel.out.size
        go_wp2_with (first | (go_at_call 151; refine (HSZ.out _).mono ?_; rintro e w' ⟨rfl, rfl⟩) | (at_builtin; refine wpList_app W.heap.size rtInt rfl (.tmp 9) (.tmp 13) rfl _ _ _ rfl HROW.out ⟨wr.heap.size, 0, none⟩ 1 1 [.int .i64 d] rfl rfl HNN.out (ones [d]) (by unfold maxLen; omega) (by omega) (by simp; omega) ?_; intro v' w4 hown' hgrow _ _; have HO := zH hown'; have HG := zH hgrow; clear hown' hgrow))
        go_roundw
        case rel =>
          refine ⟨c.tdiv 1000000000, pre ++ [d], rfl, hq1, hq2, zH ?_, zH ?_, zH ?_⟩
          · rw [hpre.out, HDG.out, HQ.out, HD.out]; simp
          · rw [List.length_append, List.map_append]
            exact HO.out
          · exact (hbel.out.alloc hwr _).grown HG.out (by simp; omega) (fun k e => (hlo.out k e).1)
        case measure => simp [intOf]; exact HLT.out
end
section
open Go.RowKit

/-- A list of digits in new memory. -/
def DPost (P : List Int → Prop) (w : World) (e : Ending) (w' : World) : Prop :=
  ∃ (out : List Int) (a' : Option Addr) (cap' : Nat), e = .returned (.slice a' out.length cap') ∧ P out ∧ out.length ≤ cap' ∧ Reads w' a' out.length (ints out) ∧ Below w.heap.size w w' ∧ ∀ p, a' = some p → w.heap.size ≤ p.block

theorem val_take_more (l : List Int) (k : Nat) : val (l.take (k + 1)) = val (l.take k) + 1000000000 ^ k * gi l k := by
  by_cases hk : k < l.length
  · exact val_take_succ hk
  · rw [gi_none (by omega), List.take_of_length_le (by omega), List.take_of_length_le (by omega)]; simp

set_option maxHeartbeats 1600000 in
set_option maxRecDepth 100000 in
theorem addDigits_any (A B : List Int) (a b : Option Addr) (ca cb : Nat) (w : World) (hA : Dig A) (hB : Dig B) (hlA : A.length ≤ 400) (hlB : B.length ≤ 400) (hra : Reads w a A.length (ints A)) (hrb : Reads w b B.length (ints B)) :
    Calls Tryz.prog 183 #[.slice a A.length ca, .slice b B.length cb] w fun e w1 => DPost (fun out => Dig out ∧ val out = val A + val B ∧ out.length ≤ A.length + B.length + 1) w e w1 := by
  have HDA := zH hA
  have HDB := zH hB
  have HRA := zH hra
  have HRB := zH hrb
  clear hA hB hra hrb
  go_enter Tryz.func183, Tryz.ntmps183
  go_wp2_with fail
  go_loopw [5, 6, 7] (fun v cv iv wr => ∃ (i : Nat) (c : Int) (out : List Int), iv = .int .i64 i ∧ cv = .int .i64 c ∧ 0 ≤ c ∧ c ≤ 1 ∧ i ≤ A.length + B.length + 1 ∧ Hid (out.length = i) ∧ Hid (Dig out) ∧ Hid (val out + 1000000000 ^ i * c = val (A.take i) + val (B.take i)) ∧ Hid (A.length ≤ i → B.length ≤ i → 0 < c → i ≤ A.length + B.length) ∧
      Hid (wr.ownsRow w.heap.size 3 1 v out.length (out.map fun z => Value.int .i64 z)) ∧ Hid (Below w.heap.size w wr)) (fun _ _ iv _ => A.length + B.length + 2 - (intOf iv).toNat)
  case atStart => exact ⟨0, 0, [], rfl, rfl, by omega, by omega, by omega, zH rfl, zH Dig.nil, zH (by simp [val]), zH (fun _ _ h => by omega), zH (World.ownsRow_nil _ _ _ _), zH (bSelf w)⟩
  case round =>
    obtain ⟨i, c, out, rfl, rfl, hc0, hc1, hi, hol, hod, hov, hoc, hrow, hbel⟩ := hrel
    replace HRA := zH (HRA.out.to hbel.out)
    replace HRB := zH (HRB.out.to hbel.out)
    have hda := HDA.out.at i
    have hdb := HDB.out.at i
    have HSA := zH (val_take_more A i)
    have HSB := zH (val_take_more B i)
    have HGA := zH (fun h => gi_none (l := A) (i := i) h)
    have HGB := zH (fun h => gi_none (l := B) (i := i) h)
    have HCA := zH (fun W h => digit_any A a ca i W h)
    have HCB := zH (fun W h => digit_any B b cb i W h)
    obtain ⟨x, hx⟩ : ∃ x, gi A i = x := ⟨_, rfl⟩
    obtain ⟨y, hy⟩ : ∃ y, gi B i = y := ⟨_, rfl⟩
    rw [hx] at hda HSA HCA HGA
    rw [hy] at hdb HSB HCB HGB
    clear hx hy
    obtain ⟨x0, x1⟩ := hda
    obtain ⟨y0, y1⟩ := hdb
    go_upto_region 4 with (fail)
    go_cut [22] (fun s22 wd => s22 = .bool (decide (i < A.length ∨ i < B.length ∨ 0 < c)) ∧ wr = wd)
    case first =>
      by_cases h1 : i < A.length
      · have e1 : decide (i < A.length ∨ i < B.length ∨ 0 < c) = true := decide_eq_true (.inl h1)
        have e2 : decide ((i : Int) < (A.length : Int)) = true := decide_eq_true (by omega)
        go_wp2_with fail
        go_meet
        case rel => exact ⟨by rw [e1], rfl⟩
      · have e2 : decide ((i : Int) < (A.length : Int)) = false := decide_eq_false (by omega)
        by_cases h2 : i < B.length
        · have e1 : decide (i < A.length ∨ i < B.length ∨ 0 < c) = true := decide_eq_true (.inr (.inl h2))
          have e3 : decide ((i : Int) < (B.length : Int)) = true := decide_eq_true (by omega)
          go_wp2_with fail
          go_meet
          case rel => exact ⟨by rw [e1], rfl⟩
        · have e3 : decide ((i : Int) < (B.length : Int)) = false := decide_eq_false (by omega)
          have e1 : decide (i < A.length ∨ i < B.length ∨ 0 < c) = decide (0 < c) := by simp [h1, h2]
          go_wp2_with fail
          go_meet
          case rel => exact ⟨by rw [e1], rfl⟩
    case rest =>
      obtain ⟨rfl, rfl⟩ := hcut
      by_cases hg : i < A.length ∨ i < B.length ∨ 0 < c
      · have hg1 : decide (i < A.length ∨ i < B.length ∨ 0 < c) = true := decide_eq_true hg
        rw [hg1]
        have HG := zH hg
        clear hg hg1
        obtain ⟨d, hd⟩ : ∃ d, (x + y + c) % 1000000000 = d := ⟨_, rfl⟩
        obtain ⟨q, hq⟩ : ∃ q, (x + y + c) / 1000000000 = q := ⟨_, rfl⟩
        have hd' : (x + y + c).tmod 1000000000 = d := by rw [Int.tmod_eq_emod_of_nonneg (by omega)]; exact hd
        have hq' : (x + y + c).tdiv 1000000000 = q := by rw [Int.tdiv_eq_ediv_of_nonneg (by omega)]; exact hq
        have hdq : x + y + c = d + 1000000000 * q ∧ 0 ≤ d ∧ d < 1000000000 ∧ 0 ≤ q ∧ q ≤ 1 := by omega
        obtain ⟨e, d0, d1, q0, q1⟩ := hdq
        have HE := zH e
        clear e hd hq
        have HROW := zH (hrow.out.alloc (.cells #[.int .i64 d] 3))
        have HNN := zH (Blk.new wr #[.int .i64 d] 3).news
        have hlo := zH hrow.out.lt
        have hwr : w.heap.size ≤ wr.heap.size := hbel.out.size
        have hio : i ≤ A.length + B.length := by
          by_cases h1 : A.length ≤ i ∧ B.length ≤ i
          · exact hoc.out h1.1 h1.2 (by rcases HG.out with h | h | h <;> omega)
          · omega
        have hol' := hol.out
        go_wp2_with fail
        refine (HCA.out _ HRA.out).mono ?_
        rintro e w' ⟨rfl, rfl⟩
        go_wp2_with fail
        refine (HCB.out _ HRB.out).mono ?_
        rintro e w' ⟨rfl, rfl⟩
        go_wp2_with (at_builtin; refine wpList_app w.heap.size rtInt rfl (.tmp 34) (.tmp 37) rfl _ _ _ rfl HROW.out ⟨wr.heap.size, 0, none⟩ 1 1 [.int .i64 d] rfl rfl HNN.out (ones [d]) (by unfold maxLen; omega) (by omega) (by simp; omega) ?_; intro v' w4 hown' hgrow _ _; have HO := zH hown'; have HGR := zH hgrow; clear hown' hgrow)
        go_roundw
        case rel =>
          refine ⟨i + 1, q, out ++ [d], by go_num, rfl, q0, q1, by omega, zH (by simp; omega), zH (hod.out.append (Dig.cons d0 d1 Dig.nil)), zH ?_, zH (fun h1 h2 h3 => ?_), zH ?_, zH ?_⟩
          · have e1 := congrArg (fun t => (1000000000 : Int) ^ i * t) HE.out
            simp only [Int.mul_add] at e1
            have e2 : (1000000000 : Int) ^ i * (1000000000 * q) = 1000000000 ^ (i + 1) * q := by rw [Int.pow_succ, Int.mul_assoc]
            rw [e2] at e1
            have e3 := hov.out
            rw [val_snoc, hol', HSA.out, HSB.out]
            omega
          · by_cases h4 : A.length ≤ i ∧ B.length ≤ i
            · have := HGA.out h4.1; have := HGB.out h4.2; have := HE.out; omega
            · omega
          · rw [List.length_append, List.map_append]
            exact HO.out
          · exact (hbel.out.alloc hwr _).grown HGR.out (by simp; omega) (fun k e => (hlo.out k e).1)
        case measure => simp [intOf]; omega
      · have hg1 : decide (i < A.length ∨ i < B.length ∨ 0 < c) = false := decide_eq_false hg
        rw [hg1]
        have hAB : A.length ≤ i ∧ B.length ≤ i ∧ c = 0 := by
          refine ⟨?_, ?_, ?_⟩
          · exact Nat.le_of_not_lt (fun h => hg (.inl h))
          · exact Nat.le_of_not_lt (fun h => hg (.inr (.inl h)))
          · have : ¬ 0 < c := fun h => hg (.inr (.inr h))
            omega
        have HAB := zH hAB
        obtain ⟨a1, cap1, rfl, hcp, hrd, hfr⟩ := Reads.of_owns' (zs := out) hrow.out
        have HRD := zH hrd
        have HFR := zH hfr
        clear hg hg1 hAB hrow hrd hfr
        go_wp2_with fail
        go_ret
        refine ⟨out, a1, cap1, rfl, ⟨hod.out, ?_, by have := hol.out; omega⟩, hcp, HRD.out, hbel.out, HFR.out⟩
        have e := hov.out
        obtain ⟨h1, h2, h3⟩ := HAB.out
        rw [h3, Int.mul_zero, Int.add_zero, val_take_all h1, val_take_all h2] at e
        exact e
end
section
open Go.RowKit

set_option maxHeartbeats 1600000 in
set_option maxRecDepth 100000 in
theorem subDigits_any (A B : List Int) (a b : Option Addr) (ca cb : Nat) (w : World) (hA : Dig A) (hB : Dig B) (hlA : A.length ≤ 400) (hlB : B.length ≤ A.length) (hle : val B ≤ val A) (hra : Reads w a A.length (ints A)) (hrb : Reads w b B.length (ints B)) :
    Calls Tryz.prog 185 #[.slice a A.length ca, .slice b B.length cb] w fun e w1 => DPost (fun out => out = digs (val A - val B).toNat) w e w1 := by
  have HDA := zH hA
  have HDB := zH hB
  have HRA := zH hra
  have HRB := zH hrb
  have HLE := zH hle
  clear hA hB hra hrb hle
  go_enter Tryz.func185, Tryz.ntmps185
  go_wp2_with fail
  go_loopw [5, 6, 7] (fun v cv iv wr => ∃ (i : Nat) (c : Int) (out : List Int), iv = .int .i64 i ∧ cv = .int .i64 c ∧ 0 ≤ c ∧ c ≤ 1 ∧ i ≤ A.length ∧ Hid (out.length = i) ∧ Hid (Dig out) ∧ Hid (val out = val (A.take i) - val (B.take i) + 1000000000 ^ i * c) ∧
      Hid (wr.ownsRow w.heap.size 3 1 v out.length (out.map fun z => Value.int .i64 z)) ∧ Hid (Below w.heap.size w wr)) (fun _ _ iv _ => A.length - (intOf iv).toNat)
  case atStart => exact ⟨0, 0, [], rfl, rfl, by omega, by omega, by omega, zH rfl, zH Dig.nil, zH (by simp [val]), zH (World.ownsRow_nil _ _ _ _), zH (bSelf w)⟩
  case round =>
    obtain ⟨i, c, out, rfl, rfl, hc0, hc1, hi, hol, hod, hov, hrow, hbel⟩ := hrel
    replace HRA := zH (HRA.out.to hbel.out)
    replace HRB := zH (HRB.out.to hbel.out)
    have hol' := hol.out
    by_cases hlt : i < A.length
    · have hltI : decide ((i : Int) < (A.length : Int)) = true := decide_eq_true (by omega)
      have hda := HDA.out.at i
      have hdb := HDB.out.at i
      have HSA := zH (val_take_more A i)
      have HSB := zH (val_take_more B i)
      have HCB := zH (fun W h => digit_any B b cb i W h)
      obtain ⟨b1, o1, rfl, hb1', hc1'⟩ := HRA.out.at (k := i) hlt
      have c1 : Hid (wr.cell? ⟨b1, o1 + i, none⟩ = some (.int .i64 (gi A i))) := zH (hc1' i hlt)
      have hs1 : b1 < wr.heap.size := hb1'
      clear hc1' hb1'
      obtain ⟨x, hx⟩ : ∃ x, gi A i = x := ⟨_, rfl⟩
      obtain ⟨y, hy⟩ : ∃ y, gi B i = y := ⟨_, rfl⟩
      rw [hx] at hda HSA c1
      rw [hy] at hdb HSB HCB
      clear hx hy
      obtain ⟨x0, x1⟩ := hda
      obtain ⟨y0, y1⟩ := hdb
      go_upto_region 6 with (fail)
      clear hltI
      refine wp_region_quiet_all (fun w' => Below (World.heap wr).size (wr) w') (by kernel_rfl) (by kernel_rfl) (Below.refl _ _).drew ?_
      refine WQ.out ?_
      repeat (first | (refine WQ_no (by rfl) ?_; (simp only [Act.put, zzT, zzO, zzS])) | (refine WQ_yes (by rfl) ?_; apply Exists.intro; refine ⟨fun w1 hb1 => ?_, ?_⟩; (focus (((have k1 := (hb1.cell (p := ⟨b1, o1 + i, none⟩) hs1).trans c1.out); have hb1 := zH hb1; go_simp); (try (go_bits; try go_simp)); (try (rw [if_pos (by omega)]; try go_simp)); (first | done | ((go_at_call 202; refine (HCB.out _ (HRB.out.to hb1.out)).mono ?_; rintro e w' ⟨rfl, rfl⟩; exact ⟨rfl, hb1.out⟩)) | (with_reducible rfl) | exact rfl))); (simp only [Act.put, zzT, zzO, zzS])))
      refine WQ_nil ?_
      intro w1 hb1
      have hbel2 := zH (bThen hbel.out hb1)
      have hrow2 := zH (owns_to hrow.out hb1)
      have hwr : w.heap.size ≤ w1.heap.size := hbel2.out.size
      clear hb1 hbel hrow c1 hs1
      obtain ⟨wq, hwq⟩ : ∃ wq, wq = w1 := ⟨_, rfl⟩
      subst hwq
      obtain ⟨t, ht⟩ : ∃ t, x - y - c = t := ⟨_, rfl⟩
      rw [ht]
      have ht1 : -1000000000 ≤ t ∧ t ≤ 1000000000 := by omega
      obtain ⟨ht1, ht2⟩ := ht1
      obtain ⟨d, q, hdq⟩ : ∃ d q : Int, t = d - 1000000000 * q ∧ 0 ≤ d ∧ d < 1000000000 ∧ ((t < 0 ∧ q = 1 ∧ d = t + 1000000000) ∨ (0 ≤ t ∧ q = 0 ∧ d = t)) := by
        by_cases h : t < 0
        · exact ⟨t + 1000000000, 1, by omega, by omega, by omega, .inl ⟨h, rfl, rfl⟩⟩
        · exact ⟨t, 0, by omega, by omega, by omega, .inr ⟨by omega, rfl, rfl⟩⟩
      obtain ⟨e, d0, d1, hcase⟩ := hdq
      have HE := zH e
      have HT := zH ht
      clear e ht
      go_upto_if 26 with (fail)
      go_cut [6, 8] (fun s6 s8 wd => s6 = .int .i64 q ∧ s8 = .int .i64 d ∧ wq = wd)
      case first =>
        rcases hcase with ⟨h, rfl, rfl⟩ | ⟨h, rfl, rfl⟩
        · have h1 : decide (t < 0) = true := decide_eq_true h
          go_wp2_with fail
          go_meet
          case rel => exact ⟨rfl, rfl, rfl⟩
        · have h1 : decide (d < 0) = false := decide_eq_false (by omega)
          go_wp2_with fail
          go_meet
          case rel => exact ⟨rfl, rfl, rfl⟩
      case rest =>
        obtain ⟨rfl, rfl, rfl⟩ := hcut
        have hq01 : 0 ≤ q ∧ q ≤ 1 := by rcases hcase with ⟨-, h, -⟩ | ⟨-, h, -⟩ <;> omega
        obtain ⟨q0, q1⟩ := hq01
        clear hcase
        have HROW := zH (hrow2.out.alloc (.cells #[.int .i64 d] 3))
        have HNN := zH (Blk.new wq #[.int .i64 d] 3).news
        have hlo := zH hrow2.out.lt
        go_wp2_with (at_builtin; refine wpList_app w.heap.size rtInt rfl (.tmp 29) (.tmp 31) rfl _ _ _ rfl HROW.out ⟨wq.heap.size, 0, none⟩ 1 1 [.int .i64 d] rfl rfl HNN.out (ones [d]) (by unfold maxLen; omega) (by omega) (by simp; omega) ?_; intro v' w4 hown' hgrow _ _; have HO := zH hown'; have HGR := zH hgrow; clear hown' hgrow)
        go_roundw
        case rel =>
          refine ⟨i + 1, q, out ++ [d], by go_num, rfl, q0, q1, by omega, zH (by simp; omega), zH (hod.out.append (Dig.cons d0 d1 Dig.nil)), zH ?_, zH ?_, zH ?_⟩
          · have e0 : x - y - c = d - 1000000000 * q := HT.out.trans HE.out
            have e1 := congrArg (fun t => (1000000000 : Int) ^ i * t) e0
            simp only [Int.mul_sub] at e1
            have e2 : (1000000000 : Int) ^ i * (1000000000 * q) = 1000000000 ^ (i + 1) * q := by rw [Int.pow_succ, Int.mul_assoc]
            rw [e2] at e1
            have e3 := hov.out
            rw [val_snoc, hol', HSA.out, HSB.out]
            omega
          · rw [List.length_append, List.map_append]
            exact HO.out
          · exact (hbel2.out.alloc hwr _).grown HGR.out (by simp; omega) (fun k e => (hlo.out k e).1)
        case measure => simp [intOf]; omega
    · have hii : i = A.length := by omega
      have hltI : decide ((i : Int) < (A.length : Int)) = false := decide_eq_false (by omega)
      obtain ⟨a1, cap1, rfl, hcp, hrd, hfr⟩ := Reads.of_owns' (zs := out) hrow.out
      have hv : val out = val A - val B := by
        have e := hov.out
        rw [hii, List.take_length, val_take_all hlB] at e
        have h1 := val_lt hod.out
        rw [hol', hii] at h1
        have h2 := HLE.out
        rcases (by omega : c = 0 ∨ c = 1) with rfl | rfl
        · rw [e]; simp
        · rw [Int.mul_one] at e; omega
      have HTR := zH (fun W h => trimmed_any out a1 cap1 W hod.out (by omega) hcp h)
      have HTK : Hid (∀ W, Reads W a1 out.length (ints out) → Reads W a1 (digs (val out).toNat).length (ints (digs (val out).toNat))) := zH (fun W h => by
        obtain ⟨m, hm⟩ := trim_ex hod.out (n := (val out).toNat) (by have := val_nonneg hod.out; omega)
        rw [hm]; exact Reads.takeW h m)
      have hml : (digs (val out).toNat).length ≤ cap1 := by
        obtain ⟨m, hm⟩ := trim_ex hod.out (n := (val out).toNat) (by have := val_nonneg hod.out; omega)
        rw [hm, List.length_take]; omega
      have HV := zH hv
      have HRD := zH hrd
      have HFR := zH hfr
      obtain ⟨D, hD⟩ : ∃ D, digs (val out).toNat = D := ⟨_, rfl⟩
      rw [hD] at HTR HTK hml
      have HD := zH hD
      clear hrow hrd hfr hv hD hii hol'
      go_wp2_with fail
      refine (HTR.out _ HRD.out).mono ?_
      rintro e w2 ⟨rfl, hb⟩
      have HB2 := zH (bThen hbel.out hb)
      have HRD2 := zH (HRD.out.to hb)
      clear hb
      go_wp2_with fail
      go_ret
      exact ⟨D, a1, cap1, rfl, by rw [← HD.out, HV.out], hml, HTK.out _ HRD2.out, HB2.out, HFR.out⟩
end
end Go.Proofs.YtbpcapcgbnbknaaGreat
