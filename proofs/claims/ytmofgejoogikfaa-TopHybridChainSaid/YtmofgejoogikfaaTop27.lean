/-
  Texts of this claim, in their build order: M3.
-/
import Derived.Test.YtmofgejoogikfaaTop26
import Derived.Test.YtmofgejoogikfaaTop7
import Derived.Test.YtmofgejoogikfaaTop6

/-
  Frames of package model: the check of a frame; the stiffnesses of its storeys.
-/
namespace Go.Proofs.Ytmofgejoogikfaa
open Go.RowKit

set_option maxHeartbeats 800000 in
set_option maxRecDepth 100000 in
theorem mFloor_ok (i : Nat) (m K : Int) (a : Option Addr) (cap : Nat) (w : World) (hm : 1 ≤ m ∧ m ≤ 1000) (hK : 1 ≤ K ∧ K ≤ 20) (hrd : Reads w a (elN K * 3) (recs 3 (elF K))) :
    Calls Try.prog 98 #[.int .i64 i, .agg #[.int .i64 m, .int .i64 1, .slice a (elN K) cap]] w fun e w' => e = .returned (.int .i64 0) ∧ Below w.heap.size w w' := by
  have HS := Lib.hid (fun W (hb : Below w.heap.size w W) => mCheckSpring_ok K a cap W hK (hrd.to hb))
  obtain ⟨n, hn⟩ : ∃ n, elN K = n := ⟨_, rfl⟩
  rw [hn] at HS ⊢
  clear hn hrd hK
  have h1 := Lib.hid (show (decide (1 ≤ m) && decide (m ≤ 10000)) = true by simp; omega)
  clear hm
  go_enter Try.func98, Try.ntmps98
  go_wp2_with fail
  obtain ⟨W, hW⟩ : ∃ W, w.alloc (.cells #[.int .i64 m, .int .i64 1, .slice a n cap] 34) = W := ⟨_, rfl⟩
  rw [hW]
  have K0 : Hid (Blk W w.heap.size #[.int .i64 m, .int .i64 1, .slice a n cap]) := by subst hW; exact Blk.new _ _ _
  have HB : Hid (Below w.heap.size w W) := by subst hW; exact bAlloc (bSelf w) _
  clear hW
  obtain ⟨-, k0, -⟩ := K0.out
  go_wp2_with fail
  refine (HS.out _ HB.out).mono ?_
  rintro e w2 ⟨rfl, hb⟩
  replace K0 := Lib.hid (K0.out.to hb)
  replace HB := Lib.hid (bThen HB.out hb)
  clear hb k0
  obtain ⟨-, k0, -⟩ := K0.out
  go_wp2_with (first | (go_at_call 100; refine (mWithin_any _ _ _ _).mono ?_; rintro e w' ⟨rfl, rfl⟩; (first | rw [h1.out] | skip)) | (go_at_call 46; refine (mUnless_any _ _ _).mono ?_; rintro e w' ⟨rfl, rfl⟩) | (go_at_call 45; refine (mFirst2_new _ _ _ _ (by simp)).mono ?_; rintro e w' ⟨rfl, rfl⟩))
  all_goals (go_ret; exact ⟨rfl, bAlloc HB.out _⟩)

set_option maxHeartbeats 800000 in
set_option maxRecDepth 100000 in
theorem mEachFl_ok (n : Nat) (ks : List Int) (sp : Nat → Option Addr × Nat) (a : Option Addr) (cap fid : Nat) (bx : Array Value) (w : World) (hlen : n ≤ 1000)
    (hcf : ∀ args w, Sem.run Try.prog (callFunc fid args) w = .ok (.enter fid args) w)
    (hrd : Reads w a (n * 3) (recs 3 (flF ks sp)))
    (hst : ∀ k W, k < n → Below w.heap.size w W → Calls Try.prog fid (#[.int .i64 k, .agg #[.int .i64 ((k : Int) + 1), .int .i64 1, .slice (sp k).1 (elN (gi ks k)) (sp k).2]] ++ bx) W fun e w'' => e = .returned (.int .i64 0) ∧ Below W.heap.size W w'') :
    Calls Try.prog 97 #[.slice a n cap, .func (.func fid) #[] bx] w
      fun e w' => e = .returned (.tuple #[.int .i64 0, .int .i64 0]) ∧ Below w.heap.size w w' := by
  have HRD := Lib.hid hrd
  have HST := Lib.hid hst
  clear hrd hst
  go_enter Try.func97, Try.ntmps97
  go_wp2_with fail
  go_loopw [6, 8, 11] (fun _ _ i wr => ∃ k : Nat, k ≤ n ∧ i = .int .i64 k ∧ Hid (Below w.heap.size w wr)) (fun _ _ i _ => n - (intOf i).toNat)
  case atStart => exact ⟨0, Nat.zero_le _, rfl, Lib.hid (bSelf w)⟩
  case round =>
    obtain ⟨k, hk, rfl, hI⟩ := hrel
    by_cases hlt : k < n
    · have hltI : decide ((k : Int) < (n : Int)) = true := decide_eq_true (by omega)
      obtain ⟨b, off, rfl, hb, hc⟩ := (HRD.out.to hI.out).at (k := k * 3) (by omega)
      have HSK := Lib.hid (fun W => HST.out k W hlt)
      have k0 : wr.cell? ⟨b, off + k * 3, none⟩ = some (.int .i64 ((k : Int) + 1)) := by rw [hc _ (by omega), recs_at0 (by decide)]; rfl
      have k1 : wr.cell? ⟨b, off + k * 3 + 1, none⟩ = some (.int .i64 1) := by rw [Nat.add_assoc, hc _ (by omega), recs_at (by decide)]; rfl
      have k2 : wr.cell? ⟨b, off + k * 3 + 2, none⟩ = some (.slice (sp k).1 (elN (gi ks k)) (sp k).2) := by rw [Nat.add_assoc, hc _ (by omega), recs_at (by decide)]; rfl
      obtain ⟨y, c, hy⟩ : ∃ y c, sp k = (y, c) := ⟨_, _, rfl⟩
      obtain ⟨m, hm⟩ : ∃ m, elN (gi ks k) = m := ⟨_, rfl⟩
      rw [hy, hm] at k2 HSK
      dsimp only at k2 HSK
      clear hc hy hm
      go_wp2_with fail
      refine (HSK.out _ (bAlloc hI.out _)).mono ?_
      rintro e w' ⟨rfl, hI'⟩
      have hI' := Lib.hid (bThen (bAlloc hI.out _) hI')
      go_wp2_with fail
      go_roundw
      case rel => exact ⟨k + 1, by omega, by go_num, hI'⟩
      case measure => simp [intOf]; omega
    · have hltI : decide ((k : Int) < (n : Int)) = false := decide_eq_false (by omega)
      go_wp2_with fail
      go_ret2
      exact ⟨rfl, hI.out⟩

set_option maxHeartbeats 1600000 in
set_option maxRecDepth 100000 in
theorem mCheckFrame_ok (ks : List Int) (n : Nat) (sp : Nat → Option Addr × Nat) (a : Option Addr) (cap : Nat) (w : World) (hn0 : 0 < n) (hn5 : n ≤ 5) (hK : ∀ k, k < n → 1 ≤ gi ks k ∧ gi ks k ≤ 20) (h : FrameAt w a n ks sp) :
    Calls Try.prog 44 #[.agg #[.slice a n cap]] w fun e w' => e = .returned (.tuple #[.int .i64 0, .int .i64 0]) ∧ Below w.heap.size w w' := by
  have HE := Lib.hid (fun W (hb : Below w.heap.size w W) => mEachFl_ok n ks sp a cap 98 #[] W (by omega) (by intros; kernel_rfl) (h.to hb).fl (fun k W' hk hW' => by
    have h1 : (1 : Int) ≤ (k : Int) + 1 ∧ (k : Int) + 1 ≤ 1000 := by omega
    exact mFloor_ok k _ _ _ _ W' h1 (hK k hk) (((h.to hb).to hW').el k hk)))
  clear h hK
  have d1 : decide ((0 : Int) < (n : Int)) = true := decide_eq_true (by omega)
  have d2 : decide ((n : Int) ≤ 5) = true := decide_eq_true (by omega)
  go_enter Try.func44, Try.ntmps44
  go_wp2_with fail
  obtain ⟨W, hW⟩ : ∃ W, w.alloc (.cells #[.slice a n cap] 29) = W := ⟨_, rfl⟩
  rw [hW]
  have K0 : Hid (Blk W w.heap.size #[.slice a n cap]) := by subst hW; exact Blk.new _ _ _
  have HB : Hid (Below w.heap.size w W) := by subst hW; exact bAlloc (bSelf w) _
  clear hW
  refine wp_region_quiet_tail 10 (fun w' => Below (World.heap W).size (W) w') (by kernel_rfl) (by kernel_rfl) (Below.refl _ _).drew ?_
  simp only [List.take_succ_cons, List.take_zero, List.drop_succ_cons, List.drop_zero]
  repeat (first | (refine wpQuiet_no (by rfl) ?_; (simp only [Act.put, List.setIfInBounds_toArray, List.set_cons_zero, List.set_cons_succ])) | (refine wpQuiet_yes (by rfl) ?_; apply Exists.intro; refine ⟨fun w1 hb1 => ?_, ?_⟩; (focus (((obtain ⟨-, k0, -⟩ := K0.out.to hb1); have hb1 := Lib.hid hb1; go_simp); (try (go_bits; try go_simp)); (try (rw [if_pos (by omega)]; try go_simp)); (first | done | ((go_at_call 46; refine (mUnless_any _ _ _).mono ?_; rintro e w' ⟨rfl, rfl⟩; exact ⟨rfl, hb1.out⟩)) | (with_reducible rfl) | exact rfl))); (simp only [Act.put, List.setIfInBounds_toArray, List.set_cons_zero, List.set_cons_succ])))
  refine wpQuiet_nil ?_
  intro w1 hb1
  replace K0 := Lib.hid (K0.out.to hb1)
  replace HB := Lib.hid (bThen HB.out hb1)
  clear hb1
  obtain ⟨hs1, k0, -⟩ := K0.out
  go_wp2_with (go_at_call 45; refine (mFirst2_new _ _ _ _ (by simp)).mono ?_; rintro e w' ⟨rfl, rfl⟩)
  refine (HE.out _ (bAlloc HB.out _)).mono ?_
  rintro e w2 ⟨rfl, hb⟩
  replace HB := Lib.hid (bThen (bAlloc HB.out _) hb)
  clear hb
  go_wp2_with fail
  go_ret2
  exact ⟨rfl, HB.out⟩

/-- The stiffness of a storey's first elements. -/
def elT (K : Int) : Nat → Int
  | 0 => 0
  | m + 1 => elT K m + elS K m
theorem elT_all (K : Int) : elT K (elN K) = K := by
  unfold elN
  split
  · show 0 + elS K 0 + elS K 1 = K; unfold elS; simp [*]; omega
  · show 0 + elS K 0 = K; unfold elS; simp [*]
theorem elT_bd {K : Int} (h : 1 ≤ K ∧ K ≤ 20) : ∀ m, 0 ≤ elT K m ∧ elT K m ≤ 1000 * m
  | 0 => by unfold elT; omega
  | m + 1 => by have := elT_bd h m; have := el_bd h m; unfold elT; omega

set_option maxHeartbeats 1600000 in
set_option maxRecDepth 100000 in
theorem mStiffnesses_ok (ks : List Int) (sp : Nat → Option Addr × Nat) (a : Option Addr) (cap : Nat) (w : World) (hn5 : ks.length ≤ 5) (hK : ∀ k, k < ks.length → 1 ≤ gi ks k ∧ gi ks k ≤ 20) (h : FrameAt w a ks.length ks sp) :
    Calls Try.prog 50 #[.agg #[.slice a ks.length cap]] w fun e w' => ∃ a' c', e = .returned (.slice a' ks.length c') ∧ ks.length ≤ c' ∧ Reads w' a' ks.length (ints ks) ∧ Below w.heap.size w w' ∧ ∀ p, a' = some p → w.heap.size ≤ p.block := by
  have HF := Lib.hid h
  have HK := Lib.hid hK
  clear h hK
  obtain ⟨n, hn⟩ : ∃ n, ks.length = n := ⟨_, rfl⟩
  have HN := Lib.hid hn
  rw [hn] at HF HK hn5 ⊢
  clear hn
  go_enter Try.func50, Try.ntmps50
  go_wp2_with fail
  obtain ⟨W, hW⟩ : ∃ W, w.alloc (.cells #[.slice a n cap] 29) = W := ⟨_, rfl⟩
  rw [hW]
  have K0 : Hid (Blk W w.heap.size #[.slice a n cap]) := by subst hW; exact Blk.new _ _ _
  have HB : Hid (Below w.heap.size w W) := by subst hW; exact bAlloc (bSelf w) _
  clear hW
  obtain ⟨-, k0, -⟩ := K0.out
  go_wp2_with fail
  go_loopw [3, 12] (fun v i wr => ∃ k : Nat, k ≤ n ∧ i = .int .i64 k ∧ Hid (wr.ownsRow w.heap.size 3 1 v k ((ks.take k).map fun z => Value.int .i64 z)) ∧ Hid (Below w.heap.size w wr)) (fun _ i _ => n - (intOf i).toNat)
  case atStart => exact ⟨0, Nat.zero_le _, rfl, Lib.hid (World.ownsRow_nil _ _ _ _), HB⟩
  case round =>
    obtain ⟨k, hk, rfl, HR, HI⟩ := hrel
    by_cases hlt : k < n
    · have hltI : decide ((k : Int) < (n : Int)) = true := decide_eq_true (by omega)
      obtain ⟨b, off, rfl, hb, hc⟩ := (HF.out.to HI.out).fl.at (k := k * 3) (by omega)
      have h0 : wr.cell? ⟨b, off + k * 3, none⟩ = some (.int .i64 ((k : Int) + 1)) := by rw [hc _ (by omega), recs_at0 (by decide)]; rfl
      have h1 : wr.cell? ⟨b, off + k * 3 + 1, none⟩ = some (.int .i64 1) := by rw [Nat.add_assoc, hc _ (by omega), recs_at (by decide)]; rfl
      have h2 : wr.cell? ⟨b, off + k * 3 + 2, none⟩ = some (.slice (sp k).1 (elN (gi ks k)) (sp k).2) := by rw [Nat.add_assoc, hc _ (by omega), recs_at (by decide)]; rfl
      have hel := (HF.out.to HI.out).el k hlt
      have hKk := HK.out k hlt
      have hall := elT_all (gi ks k)
      have hbd := fun m => elT_bd hKk m
      have hbs := fun m => el_bd hKk m
      have hN2 := elN_two (gi ks k)
      obtain ⟨y, c, hy⟩ : ∃ y c, sp k = (y, c) := ⟨_, _, rfl⟩
      obtain ⟨K, hKe⟩ : ∃ K, gi ks k = K := ⟨_, rfl⟩
      have HKE := Lib.hid hKe
      rw [hKe, hy] at h2 hel
      rw [hKe] at hall hbd hbs hN2
      obtain ⟨m, hm⟩ : ∃ m, elN K = m := ⟨_, rfl⟩
      rw [hm] at h2 hel hall hN2
      dsimp only at h2 hel
      have HEL := Lib.hid hel
      have HALL := Lib.hid hall
      have HBD := Lib.hid hbd
      have HBS := Lib.hid hbs
      clear hc hy hm hKk hall hbd hbs hKe hel
      go_wp2_with fail
      have HW := Lib.hid (bAlloc (bSelf wr) (.cells #[.int .i64 ((k : Int) + 1), .int .i64 1, .slice y m c] 34))
      obtain ⟨w5, hw5⟩ : ∃ W, wr.alloc (.cells #[.int .i64 ((k : Int) + 1), .int .i64 1, .slice y m c] 34) = W := ⟨_, rfl⟩
      rw [hw5] at HW ⊢
      clear hw5 h0 h1 h2
      replace HEL := Lib.hid (HEL.out.to HW.out)
      obtain ⟨wo, hwo⟩ : ∃ W, W = wr := ⟨_, rfl⟩
      subst hwo
      go_loopw [6, 19] (fun s i wx => ∃ j : Nat, j ≤ m ∧ i = .int .i64 j ∧ s = .int .i64 (elT K j) ∧ Hid (Below w5.heap.size w5 wx)) (fun _ i _ => m - (intOf i).toNat)
      case atStart => exact ⟨0, Nat.zero_le _, rfl, rfl, Lib.hid (bSelf w5)⟩
      case round =>
        obtain ⟨j, hj, rfl, rfl, hx⟩ := hrel
        by_cases hltj : j < m
        · have hltJ : decide ((j : Int) < (m : Int)) = true := decide_eq_true (by omega)
          obtain ⟨b2, off2, rfl, hb2, hc2⟩ := (HEL.out.to hx.out).at (k := j * 3) (by omega)
          have e0 : wr.cell? ⟨b2, off2 + j * 3, none⟩ = some (.int .i64 (elS K j)) := by rw [hc2 _ (by omega), recs_at0 (by decide)]; rfl
          have e1 : wr.cell? ⟨b2, off2 + j * 3 + 1, none⟩ = some (.int .i64 (elY K j)) := by rw [Nat.add_assoc, hc2 _ (by omega), recs_at (by decide)]; rfl
          have e2 : wr.cell? ⟨b2, off2 + j * 3 + 2, none⟩ = some (.bool (elB K j)) := by rw [Nat.add_assoc, hc2 _ (by omega), recs_at (by decide)]; rfl
          obtain ⟨t0, t1⟩ := HBD.out j
          obtain ⟨s0, s1, -, -⟩ := HBS.out j
          have hnx : elT K (j + 1) = elT K j + elS K j := rfl
          obtain ⟨t, ht⟩ : ∃ t, elT K j = t := ⟨_, rfl⟩
          obtain ⟨s, hs⟩ : ∃ s, elS K j = s := ⟨_, rfl⟩
          rw [ht, hs] at hnx
          rw [ht] at t0 t1 ⊢
          rw [hs] at s0 s1 e0
          have HNX := Lib.hid hnx
          clear hc2 hnx ht hs
          go_wp2_with fail
          go_roundw
          case rel => exact ⟨j + 1, by omega, by go_num, by rw [HNX.out], Lib.hid (bAlloc hx.out _)⟩
          case measure => simp [intOf]; omega
        · have hltJ : decide ((j : Int) < (m : Int)) = false := decide_eq_false (by omega)
          obtain rfl : j = m := by omega
          rw [HALL.out]
          obtain ⟨w6, hw6⟩ : ∃ W, W = wr := ⟨_, rfl⟩
          subst hw6
          have hb56 := Lib.hid (bThen HW.out hx.out)
          have HROW := Lib.hid ((owns_to HR.out hb56.out).alloc (.cells #[.int .i64 K] 3))
          have HNN := Lib.hid (Reads.news' (zs := [K]) (Reads.fresh w6 #[.int .i64 K] 3 (ints [K]) _ 1 rfl (fun i hi => by
            have : i = 0 := by omega
            subst this
            rfl)))
          have hlo := Lib.hid (fun k e => (HROW.out.lt k e).1)
          have HB6 := Lib.hid (bThen HI.out hb56.out)
          have hs6 : w.heap.size ≤ w6.heap.size := HB6.out.size
          go_wp2_with (at_builtin; refine wpList_app w.heap.size rtInt rfl (.tmp 28) (.tmp 30) rfl _ _ _ rfl HROW.out ⟨w6.heap.size, 0, none⟩ 1 1 [.int .i64 K] rfl rfl HNN.out (ones [K]) (by unfold maxLen; omega) (by omega) (by simp; omega) ?_; intro v' w7 hown' hgrow _ hwhere; have HO := Lib.hid hown'; have HG := Lib.hid hgrow; clear hown' hgrow hwhere)
          have HB7 : Hid (Below w.heap.size w w7) := Lib.hid ((bAlloc HB6.out _).grown HG.out (by simp; omega) (fun k e => hlo.out k e))
          go_roundw
          case rel =>
            refine ⟨k + 1, by omega, by go_num, Lib.hid ?_, HB7⟩
            have := HO.out
            rw [gi_take ks k (by rw [HN.out]; exact hlt), List.map_append, HKE.out]
            exact this
          case measure => simp [intOf]; omega
    · have hltI : decide ((k : Int) < (n : Int)) = false := decide_eq_false (by omega)
      obtain rfl : k = n := by omega
      go_wp2_with fail
      go_ret
      have hr := HR.out
      rw [List.take_of_length_le (by rw [HN.out]; exact Nat.le_refl _)] at hr
      have hN := HN.out
      subst hN
      obtain ⟨a2, c2, rfl, hcp, hrd, hfr⟩ := Reads.of_owns' hr
      exact ⟨a2, c2, rfl, hcp, hrd, HI.out, hfr⟩

end Go.Proofs.Ytmofgejoogikfaa

