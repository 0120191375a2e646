/-
  Texts of this claim, in their build order: W3 W4.
-/
import Derived.Test.YtbpcapcgbnbknaaGreatOne8
import Derived.Test.YtbpcapcgbnbknaaGreatOne5
import Derived.Test.YtbpcapcgbnbknaaGreatOne6
import Derived.Test.YtbpcapcgbnbknaaGreatOne0

namespace Go.Proofs.YtbpcapcgbnbknaaGreat
section
set_option maxHeartbeats 400000
open Go.RowKit

theorem gi_none {l : List Int} {i : Nat} (h : l.length ≤ i) : gi l i = 0 := by
  unfold gi
  rw [List.getD_eq_getElem?_getD, List.getElem?_eq_none h]
  rfl

theorem digit_any (l : List Int) (a : Option Addr) (cap i : Nat) (w : World) (hr : Reads w a l.length (ints l)) :
    Calls Tryz.prog 202 #[.slice a l.length cap, .int .i64 i] w fun e w' => e = .returned (.int .i64 (gi l i)) ∧ w = w' := by
  by_cases hi : i < l.length
  · have h1 : decide ((i : Int) < (l.length : Int)) = true := decide_eq_true (by omega)
    obtain ⟨b, off, rfl, hb, hc⟩ := hr.at hi
    have c1 : w.cell? ⟨b, off + i, none⟩ = some (.int .i64 (gi l i)) := hc i hi
    clear hc hr
    go_enter Tryz.func202, Tryz.ntmps202
    go_wp2_with fail
    go_ret
    exact ⟨rfl, rfl⟩
  · have h1 : decide ((i : Int) < (l.length : Int)) = false := decide_eq_false (by omega)
    have h2 : decide (i < l.length) = false := decide_eq_false hi
    have HG := zH (gi_none (l := l) (i := i) (by omega))
    go_enter Tryz.func202, Tryz.ntmps202
    go_wp2_with fail
    go_ret
    exact ⟨ret_int HG.out.symm, rfl⟩

theorem WideSign_any (z : Int) (a : Option Addr) (v : Value) (w : World) (hv : RW w a v z) :
    Calls Tryz.prog 168 #[v] w fun e w' => e = .returned (.int .i64 z.sign) ∧ Below w.heap.size w w' := by
  obtain ⟨cap, rfl, hc, hr⟩ := hv
  clear hr hc
  go_enter Tryz.func168, Tryz.ntmps168
  go_wp2_with fail
  go_ret
  exact ⟨rfl, bAlloc (bSelf w) _⟩

theorem WideNeg_any (z : Int) (a : Option Addr) (v : Value) (w : World) (hv : RW w a v z) :
    Calls Tryz.prog 153 #[v] w fun e w1 => WAt a (-z) w e w1 := by
  obtain ⟨cap, rfl, hc, hr⟩ := hv
  have HP : Hid (∀ (w' : World) (e : Ending), Below w.heap.size w w' → e = .returned (.agg #[.int .i64 (-z.sign), .slice a (dg z).length cap]) → WAt a (-z) w e w') := zH (fun w' e hb he =>
    ⟨_, he, ⟨cap, by rw [dg_neg, Int.sign_neg], by rw [dg_neg]; exact hc, by rw [dg_neg]; exact hr.to hb⟩, hb⟩)
  obtain ⟨s1, s2⟩ := sign_bd z
  obtain ⟨s, hs⟩ : ∃ s, z.sign = s := ⟨_, rfl⟩
  obtain ⟨D, hD⟩ : ∃ D, dg z = D := ⟨_, rfl⟩
  rw [hs, hD] at HP ⊢
  rw [hs] at s1 s2
  clear hs hD hr hc
  go_enter Tryz.func153, Tryz.ntmps153
  go_upto_region 1 with (fail)
  obtain ⟨w1, hw1⟩ : ∃ w1, (w.alloc (.cells #[.int .i64 s, .slice a D.length cap] 63)).alloc (.cells #[.int .i64 0, .slice none 0 0] 63) = w1 := ⟨_, rfl⟩
  rw [hw1]
  have K0 : Hid (Blk w1 w.heap.size #[.int .i64 s, .slice a D.length cap]) := by subst hw1; exact zH ((Blk.new _ _ _).alloc _)
  have K1 : Hid (Blk w1 (w.heap.size + 1) #[.int .i64 0, .slice none 0 0]) := by subst hw1; exact zH (Blk.newAt _ _ _ (by simp))
  have HB : Hid (Below w.heap.size w w1) := by subst hw1; exact zH (bAlloc (bAlloc (bSelf w) _) _)
  clear hw1
  obtain ⟨h0, k0, f0⟩ := K0.out
  obtain ⟨h1, k1, f1⟩ := K1.out
  go_wp2_with fail
  clear k0 f0 k1 f1
  have F := ((K1.out.set 0 (.int .i64 (-s))).set 1 (.slice a D.length cap)).2.1
  have F0 := F 0; have F1 := F 1
  clear F
  have hF := (HB.out.setCell (p := ⟨w.heap.size + 1, 0, none⟩) (by dsimp only; omega) (.int .i64 (-s))).setCell (p := ⟨w.heap.size + 1, 1, none⟩) (by dsimp only; omega) (.slice a D.length cap)
  refine bodyPost_ret (v := .agg #[.int .i64 (-s), .slice a D.length cap]) ?_ rfl (HP.out _ _ hF rfl)
  simp [results, Tryz.results153, go_sem, F0, F1]

theorem wideSize_any (z : Int) (a : Option Addr) (v : Value) (w : World) (hv : RW w a v z) :
    Calls Tryz.prog 198 #[v] w fun e w1 => WAt a (z.natAbs : Int) w e w1 := by
  by_cases hz : z < 0
  · have hzn : (z.natAbs : Int) = -z := by omega
    rw [hzn]
    have HN := zH (fun W h => WideNeg_any z a v W h)
    have HV := zH hv
    have hs : z.sign = -1 := Int.sign_eq_neg_one_of_neg hz
    obtain ⟨cap, rfl, hc, hr⟩ := hv
    rw [hs] at HN HV ⊢
    clear hzn hz hs hr hc
    obtain ⟨D, hD⟩ : ∃ D, dg z = D := ⟨_, rfl⟩
    rw [hD] at HN HV ⊢
    clear hD
    go_enter Tryz.func198, Tryz.ntmps198
    go_upto_region 1 with (fail)
    obtain ⟨w1, hw1⟩ : ∃ w1, (w.alloc (.cells #[.int .i64 (-1), .slice a D.length cap] 63)).alloc (.cells #[.int .i64 0, .slice none 0 0] 63) = w1 := ⟨_, rfl⟩
    rw [hw1]
    have K0 : Hid (Blk w1 w.heap.size #[.int .i64 (-1), .slice a D.length cap]) := by subst hw1; exact zH ((Blk.new _ _ _).alloc _)
    have K1 : Hid (Blk w1 (w.heap.size + 1) #[.int .i64 0, .slice none 0 0]) := by subst hw1; exact zH (Blk.newAt _ _ _ (by simp))
    have HB : Hid (Below w.heap.size w w1) := by subst hw1; exact zH (bAlloc (bAlloc (bSelf w) _) _)
    clear hw1
    obtain ⟨h0, k0, f0⟩ := K0.out
    go_wp2_with fail
    refine (HN.out _ (HV.out.to HB.out)).mono ?_
    rintro e w2 ⟨v2, rfl, hv2, hb⟩
    obtain ⟨cap2, rfl, hc2, hr2⟩ := hv2
    replace K1 := zH (K1.out.to hb)
    replace HB := zH (bThen HB.out hb)
    have HP : Hid (∀ (w' : World) (e : Ending), Below w.heap.size w w' → e = .returned (.agg #[.int .i64 (-z).sign, .slice a (dg (-z)).length cap2]) → WAt a (-z) w e w') := zH (fun w' e hb he =>
      ⟨_, he, ⟨cap2, rfl, hc2, by
        obtain ⟨cap3, -, -, h3⟩ := HV.out
        rw [dg_neg]
        exact h3.to hb⟩, hb⟩)
    clear hb hc2 hr2 k0 f0 h0 K0
    obtain ⟨s2, hs2⟩ : ∃ s, (-z).sign = s := ⟨_, rfl⟩
    obtain ⟨D2, hD2⟩ : ∃ D, dg (-z) = D := ⟨_, rfl⟩
    rw [hs2, hD2] at HP ⊢
    clear hs2 hD2
    obtain ⟨h1, k1, f1⟩ := K1.out
    go_wp2_with fail
    clear k1 f1
    have F := ((K1.out.set 0 (.int .i64 s2)).set 1 (.slice a D2.length cap2)).2.1
    have F0 := F 0; have F1 := F 1
    clear F
    have hF := (HB.out.setCell (p := ⟨w.heap.size + 1, 0, none⟩) (by dsimp only; omega) (.int .i64 s2)).setCell (p := ⟨w.heap.size + 1, 1, none⟩) (by dsimp only; omega) (.slice a D2.length cap2)
    refine bodyPost_ret (v := .agg #[.int .i64 s2, .slice a D2.length cap2]) ?_ rfl (HP.out _ _ hF rfl)
    simp [results, Tryz.results198, go_sem, F0, F1]
  · have hzn : (z.natAbs : Int) = z := by omega
    rw [hzn]
    have HV := zH hv
    obtain ⟨cap, rfl, hc, hr⟩ := hv
    have hs0 : 0 ≤ z.sign := by
      by_cases h : z = 0
      · rw [h]; decide
      · rw [Int.sign_eq_one_of_pos (by omega)]; decide
    have hsd : decide (z.sign < 0) = false := decide_eq_false (by omega)
    obtain ⟨s1, s2⟩ := sign_bd z
    obtain ⟨s, hs⟩ : ∃ s, z.sign = s := ⟨_, rfl⟩
    obtain ⟨D, hD⟩ : ∃ D, dg z = D := ⟨_, rfl⟩
    rw [hs, hD] at HV ⊢
    rw [hs] at hsd s1 s2 hs0
    clear hs hD hr hc hzn hz
    go_enter Tryz.func198, Tryz.ntmps198
    go_upto_region 1 with (fail)
    obtain ⟨w1, hw1⟩ : ∃ w1, (w.alloc (.cells #[.int .i64 s, .slice a D.length cap] 63)).alloc (.cells #[.int .i64 0, .slice none 0 0] 63) = w1 := ⟨_, rfl⟩
    rw [hw1]
    have K0 : Hid (Blk w1 w.heap.size #[.int .i64 s, .slice a D.length cap]) := by subst hw1; exact zH ((Blk.new _ _ _).alloc _)
    have K1 : Hid (Blk w1 (w.heap.size + 1) #[.int .i64 0, .slice none 0 0]) := by subst hw1; exact zH (Blk.newAt _ _ _ (by simp))
    have HB : Hid (Below w.heap.size w w1) := by subst hw1; exact zH (bAlloc (bAlloc (bSelf w) _) _)
    clear hw1
    obtain ⟨h0, k0, f0⟩ := K0.out
    obtain ⟨h1, k1, f1⟩ := K1.out
    go_wp2_with fail
    clear k0 f0 k1 f1
    have F := ((K1.out.set 0 (.int .i64 s)).set 1 (.slice a D.length cap)).2.1
    have F0 := F 0; have F1 := F 1
    clear F
    have hF := (HB.out.setCell (p := ⟨w.heap.size + 1, 0, none⟩) (by dsimp only; omega) (.int .i64 s)).setCell (p := ⟨w.heap.size + 1, 1, none⟩) (by dsimp only; omega) (.slice a D.length cap)
    refine bodyPost_ret (v := .agg #[.int .i64 s, .slice a D.length cap]) ?_ rfl ⟨_, rfl, HV.out.to hF, hF⟩
    simp [results, Tryz.results198, go_sem, F0, F1]
end
section
open Go.RowKit

/-- One number against another. -/
def cmpI (m n : Nat) : Int := if m < n then -1 else if n < m then 1 else 0
theorem digs_lt {m n : Nat} (h : (digs m).length < (digs n).length) : m < n := by
  apply Classical.byContradiction
  intro hc
  have h1 := val_lt (digs_dig m)
  rw [val_digs] at h1
  have h2 : m < 1000000000 ^ (digs m).length := by
    have e : ((1000000000 ^ (digs m).length : Nat) : Int) = 1000000000 ^ (digs m).length := by simp
    rw [← e] at h1
    omega
  have h3 := digs_len (digs m).length n (by omega)
  omega
theorem val_split (l : List Int) (k : Nat) (hk : k < l.length) : val l = val (l.take k) + 1000000000 ^ k * gi l k + 1000000000 ^ (k + 1) * val (l.drop (k + 1)) := by
  conv => lhs; rw [← List.take_append_drop (k + 1) l, val_append, val_take_succ hk, List.length_take, Nat.min_eq_left (by omega)]
theorem pow_pos' (k : Nat) : (0 : Int) < 1000000000 ^ k := Int.pow_pos (by decide)
/-- The highest digit that differs decides. -/
theorem val_lt_at {l m : List Int} (hl : Dig l) (hm : Dig m) (hlen : l.length = m.length) {k : Nat} (hk : k < l.length) (h : ∀ j, k < j → j < l.length → gi l j = gi m j) (hlt : gi l k < gi m k) : val l < val m := by
  rw [val_split l k hk, val_split m k (by omega)]
  have e : l.drop (k + 1) = m.drop (k + 1) := by
    apply gi_ext
    · simp [hlen]
    · intro i hi
      rw [List.length_drop] at hi
      rw [gi_drop_at, gi_drop_at]
      exact h _ (by omega) (by omega)
  rw [e]
  have h1 := val_lt (hl.take k)
  rw [List.length_take, Nat.min_eq_left (by omega)] at h1
  have h2 := val_nonneg (hm.take k)
  have h3 : (1000000000 : Int) ^ k * (gi l k + 1) ≤ 1000000000 ^ k * gi m k := Int.mul_le_mul_of_nonneg_left (by omega) (Int.le_of_lt (pow_pos' k))
  rw [Int.mul_add, Int.mul_one] at h3
  omega

set_option maxHeartbeats 1000000 in
set_option maxRecDepth 100000 in
theorem cmpDigits_any (m n : Nat) (a b : Option Addr) (ca cb : Nat) (w : World) (hlm : (digs m).length ≤ 1000) (hra : Reads w a (digs m).length (ints (digs m))) (hrb : Reads w b (digs n).length (ints (digs n))) :
    Calls Tryz.prog 184 #[.slice a (digs m).length ca, .slice b (digs n).length cb] w fun e w' => e = .returned (.int .i64 (cmpI m n)) ∧ Below w.heap.size w w' := by
  have HLT : Hid ((digs m).length < (digs n).length → cmpI m n = -1) := zH (fun h => by unfold cmpI; rw [if_pos (digs_lt h)])
  have HGT : Hid ((digs n).length < (digs m).length → cmpI m n = 1) := zH (fun h => by
    have := digs_lt h
    unfold cmpI; rw [if_neg (by omega), if_pos this])
  have HAT : Hid ((digs m).length = (digs n).length → ∀ k, k < (digs m).length → (∀ j, k < j → j < (digs m).length → gi (digs m) j = gi (digs n) j) → (gi (digs m) k < gi (digs n) k → cmpI m n = -1) ∧ (gi (digs n) k < gi (digs m) k → cmpI m n = 1)) := zH (fun he k hk h => by
    constructor
    · intro hlt
      have := val_lt_at (digs_dig m) (digs_dig n) he hk h hlt
      rw [val_digs, val_digs] at this
      unfold cmpI; rw [if_pos (by omega)]
    · intro hlt
      have := val_lt_at (digs_dig n) (digs_dig m) he.symm (by omega) (fun j h1 h2 => (h j h1 (by omega)).symm) hlt
      rw [val_digs, val_digs] at this
      unfold cmpI; rw [if_neg (by omega), if_pos (by omega)])
  have HEQ : Hid ((digs m).length = (digs n).length → (∀ j, j < (digs m).length → gi (digs m) j = gi (digs n) j) → cmpI m n = 0) := zH (fun he h => by
    have e := gi_ext he h
    have h1 := val_digs m
    rw [e, val_digs] at h1
    unfold cmpI; rw [if_neg (by omega), if_neg (by omega)])
  have HDA := zH (digs_dig m)
  have HDB := zH (digs_dig n)
  obtain ⟨A, hA⟩ : ∃ A, digs m = A := ⟨_, rfl⟩
  obtain ⟨B, hB⟩ : ∃ B, digs n = B := ⟨_, rfl⟩
  obtain ⟨c, hc⟩ : ∃ c, cmpI m n = c := ⟨_, rfl⟩
  rw [hA] at HLT HGT HAT HEQ HDA hlm hra ⊢
  rw [hB] at HLT HGT HAT HEQ HDB hrb ⊢
  rw [hc] at HLT HGT HAT HEQ ⊢
  clear hA hB hc
  have HRA := zH hra
  have HRB := zH hrb
  clear hra hrb
  rcases Nat.lt_trichotomy A.length B.length with h | h | h
  · have h1 : ((A.length : Int) != (B.length : Int)) = true := by simp; omega
    have h2 : decide ((A.length : Int) < (B.length : Int)) = true := decide_eq_true (by omega)
    have HH := zH h
    go_enter Tryz.func184, Tryz.ntmps184
    go_wp2_with fail
    go_ret
    exact ⟨ret_int (HLT.out HH.out).symm, bSelf w⟩
  · have h1 : ((A.length : Int) != (B.length : Int)) = false := by simp; omega
    have HH := zH h
    clear h
    go_enter Tryz.func184, Tryz.ntmps184
    go_wp2_with fail
    clear h1
    go_loopw [5] (fun v wr => ∃ j : Nat, j ≤ A.length ∧ v = .int .i64 ((j : Int) - 1) ∧ Hid (∀ k, j ≤ k → k < A.length → gi A k = gi B k) ∧ Hid (Below w.heap.size w wr)) (fun v _ => (intOf v + 1).toNat)
    case atStart => exact ⟨A.length, Nat.le_refl _, rfl, zH (fun k h1 h2 => by omega), zH (bSelf w)⟩
    case round =>
      obtain ⟨j, hj, rfl, hz, hbel⟩ := hrel
      by_cases h0 : j = 0
      · have hv : (j : Int) - 1 = -1 := by omega
        have HJ := zH h0
        clear h0
        go_wp2_with fail
        go_ret
        exact ⟨ret_int (HEQ.out HH.out (fun k hk => hz.out k (by have := HJ.out; omega) hk)).symm, hbel.out⟩
      · obtain ⟨k, hk⟩ : ∃ k, j = k + 1 := ⟨j - 1, by omega⟩
        have hv : (j : Int) - 1 = (k : Int) := by omega
        obtain ⟨b1, o1, rfl, hb1', hc1⟩ := HRA.out.at (k := k) (by omega)
        obtain ⟨b2, o2, rfl, hb2', hc2⟩ := HRB.out.at (k := k) (by have := HH.out; omega)
        have c1 : Hid (wr.cell? ⟨b1, o1 + k, none⟩ = some (.int .i64 (gi A k))) := zH ((hbel.out.cell (p := ⟨b1, o1 + k, none⟩) hb1').trans (hc1 k (by omega)))
        have c2 : Hid (wr.cell? ⟨b2, o2 + k, none⟩ = some (.int .i64 (gi B k))) := zH ((hbel.out.cell (p := ⟨b2, o2 + k, none⟩) hb2').trans (hc2 k (by have := HH.out; omega)))
        have hs1 : b1 < wr.heap.size := Nat.lt_of_lt_of_le hb1' hbel.out.size
        have hs2 : b2 < wr.heap.size := Nat.lt_of_lt_of_le hb2' hbel.out.size
        have hkA : k < A.length := by omega
        have hkB : k < B.length := by have := HH.out; omega
        have HAK := zH (HAT.out HH.out k hkA (fun i h1 h2 => hz.out i (by omega) h2))
        have HK := zH hk
        clear hc1 hc2 hb1' hb2' hk h0
        go_upto_region 8 with (fail)
        refine wp_region_quiet_all (fun w' => Below (World.heap wr).size (wr) w') (by kernel_rfl) (by kernel_rfl) (Below.refl _ _).drew ?_
        refine WQ.out ?_
        repeat (first | (refine WQ_no (by rfl) ?_; (simp only [Act.put, zzT, zzO, zzS])) | (refine WQ_yes (by rfl) ?_; apply Exists.intro; refine ⟨fun w1 hb1 => ?_, ?_⟩; (focus (((have k1 := (hb1.cell (p := ⟨b1, o1 + k, none⟩) hs1).trans c1.out; have k2 := (hb1.cell (p := ⟨b2, o2 + k, none⟩) hs2).trans c2.out); have hb1 := zH hb1; go_simp); (try (go_bits; try go_simp)); (try (rw [if_pos (by omega)]; try go_simp)); (first | done | (with_reducible rfl) | exact rfl))); (simp only [Act.put, zzT, zzO, zzS])))
        refine WQ_nil ?_
        intro w1 hb1
        replace c1 := zH ((hb1.cell (p := ⟨b1, o1 + k, none⟩) hs1).trans c1.out)
        replace c2 := zH ((hb1.cell (p := ⟨b2, o2 + k, none⟩) hs2).trans c2.out)
        replace hbel := zH (bThen hbel.out hb1)
        replace hs1 : b1 < w1.heap.size := Nat.lt_of_lt_of_le hs1 hb1.size
        replace hs2 : b2 < w1.heap.size := Nat.lt_of_lt_of_le hs2 hb1.size
        clear hb1
        by_cases hl : gi A k < gi B k
        · have hl1 : decide (gi A k < gi B k) = true := decide_eq_true hl
          have HL := zH hl
          go_wp2_with fail
          go_ret
          exact ⟨ret_int (HAK.out.1 HL.out).symm, hbel.out⟩
        · have hl1 : decide (gi A k < gi B k) = false := decide_eq_false hl
          obtain ⟨wq, hwq⟩ : ∃ wq, wq = w1 := ⟨_, rfl⟩
          subst hwq
          go_upto_region 10 with (fail)
          refine wp_region_quiet_all (fun w' => Below (World.heap wq).size (wq) w') (by kernel_rfl) (by kernel_rfl) (Below.refl _ _).drew ?_
          refine WQ.out ?_
          repeat (first | (refine WQ_no (by rfl) ?_; (simp only [Act.put, zzT, zzO, zzS])) | (refine WQ_yes (by rfl) ?_; apply Exists.intro; refine ⟨fun w1 hb1 => ?_, ?_⟩; (focus (((have k1 := (hb1.cell (p := ⟨b1, o1 + k, none⟩) hs1).trans c1.out; have k2 := (hb1.cell (p := ⟨b2, o2 + k, none⟩) hs2).trans c2.out); have hb1 := zH hb1; go_simp); (try (go_bits; try go_simp)); (try (rw [if_pos (by omega)]; try go_simp)); (first | done | (with_reducible rfl) | exact rfl))); (simp only [Act.put, zzT, zzO, zzS])))
          refine WQ_nil ?_
          intro w1 hb1
          replace hbel := zH (bThen hbel.out hb1)
          clear hb1 hl1
          by_cases hg : gi B k < gi A k
          · have hg1 : decide (gi B k < gi A k) = true := decide_eq_true hg
            have HG := zH hg
            clear hl
            go_wp2_with fail
            go_ret
            exact ⟨ret_int (HAK.out.2 HG.out).symm, hbel.out⟩
          · have hg1 : decide (gi B k < gi A k) = false := decide_eq_false hg
            have HG := zH (show gi A k = gi B k by omega)
            clear hl
            go_wp2_with fail
            go_roundw
            case rel => exact ⟨k, by omega, by go_num, zH (fun i h1 h2 => by
              by_cases hi : i = k
              · rw [hi]; exact HG.out
              · exact hz.out i (by have := HK.out; omega) h2), hbel⟩
            case measure => simp [intOf]; have := HK.out; omega
  · have h1 : ((A.length : Int) != (B.length : Int)) = true := by simp; omega
    have h2 : decide ((A.length : Int) < (B.length : Int)) = false := decide_eq_false (by omega)
    have h3 : decide (A.length < B.length) = false := decide_eq_false (by omega)
    have HH := zH h
    go_enter Tryz.func184, Tryz.ntmps184
    go_wp2_with fail
    go_ret
    exact ⟨ret_int (HGT.out HH.out).symm, bSelf w⟩
end
end Go.Proofs.YtbpcapcgbnbknaaGreat
