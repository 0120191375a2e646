/-
  Texts of this claim, in their build order: M6 N1.
-/
import Derived.Test.YtmofgejoogikfaaTop41
import Derived.Test.YtmofgejoogikfaaTop12

/-
  The drifts of a frame under forces.
-/
namespace Go.Proofs.Ytmofgejoogikfaa
open Go.RowKit
attribute [local go_sem] Oper.semAt_some

set_option maxHeartbeats 800000 in
set_option maxRecDepth 100000 in
theorem mEachInt_ok (zs : List Int) (a : Option Addr) (cap fid : Nat) (bx : Array Value) (w : World) (hlen : zs.length ≤ 1000)
    (hcf : ∀ args w, Sem.run Try.prog (callFunc fid args) w = .ok (.enter fid args) w)
    (hrd : Reads w a zs.length (ints zs))
    (hst : ∀ k W, k < zs.length → Below w.heap.size w W → Calls Try.prog fid (#[.int .i64 k, .int .i64 (gi zs k)] ++ bx) W fun e w'' => e = .returned (.int .i64 0) ∧ W = w'') :
    Calls Try.prog 47 #[.slice a zs.length cap, .func (.func fid) #[] bx] w
      fun e w' => e = .returned (.tuple #[.int .i64 0, .int .i64 0]) ∧ Below w.heap.size w w' := by
  have HRD := Lib.hid hrd
  have HST := Lib.hid hst
  clear hrd hst
  obtain ⟨n, hn⟩ : ∃ n, zs.length = n := ⟨_, rfl⟩
  rw [hn] at HRD HST hlen ⊢
  clear hn
  go_enter Try.func47, Try.ntmps47
  go_wp2_with fail
  go_loopw [6, 8, 11] (fun _ _ i wr => ∃ k : Nat, k ≤ n ∧ i = .int .i64 k ∧ Hid (Below w.heap.size w wr)) (fun _ _ i _ => n - (intOf i).toNat)
  case atStart => exact ⟨0, Nat.zero_le _, rfl, Lib.hid (bSelf w)⟩
  case round =>
    obtain ⟨k, hk, rfl, hI⟩ := hrel
    by_cases hlt : k < n
    · have hltI : decide ((k : Int) < (n : Int)) = true := decide_eq_true (by omega)
      obtain ⟨b, off, rfl, hb, hc⟩ := (HRD.out.to hI.out).at (k := k) (by omega)
      have HSK := Lib.hid (fun W => HST.out k W hlt)
      have k0 : wr.cell? ⟨b, off + k, none⟩ = some (.int .i64 (gi zs k)) := hc _ (by omega)
      clear hc
      go_wp2_with fail
      first
        | (refine (HSK.out _ hI.out).mono ?_; rintro e w' ⟨rfl, rfl⟩)
        | (refine (HSK.out _ (bAlloc hI.out _)).mono ?_; rintro e w' ⟨rfl, rfl⟩)
      go_wp2_with fail
      go_roundw
      case rel => exact ⟨k + 1, by omega, by go_num, by first | exact hI | exact Lib.hid (bAlloc hI.out _)⟩
      case measure => simp [intOf]; omega
    · have hltI : decide ((k : Int) < (n : Int)) = false := decide_eq_false (by omega)
      go_wp2_with fail
      go_ret2
      exact ⟨rfl, hI.out⟩

set_option maxHeartbeats 3200000 in
set_option maxRecDepth 100000 in
theorem DriftsUnder_ok (ks fs : List Int) (sp : Nat → Option Addr × Nat) (a fa : Option Addr) (cap fc : Nat) (w : World) (hok : ChOk ks fs) (hn0 : 0 < ks.length) (hn5 : ks.length ≤ 5) (h : FrameAt w a ks.length ks sp) (hr : Reads w fa fs.length (ints fs)) :
    Calls Try.prog 7 #[.agg #[.slice a ks.length cap], .slice fa fs.length fc] w fun e w' => ∃ a' c', e = .returned (.tuple #[.slice a' ks.length c', .int .i64 0]) ∧ ks.length ≤ c' ∧ Reads w' a' (ks.length * 2) (recs 2 (driF ks fs 0)) ∧ Below w.heap.size w w' := by
  have hlen := hok.len
  have HOK := Lib.hid hok
  have HCF := Lib.hid (fun W (hb : Below w.heap.size w W) => mCheckFrame_ok ks ks.length sp a cap W hn0 hn5 hok.k1 (h.to hb))
  have HEI := Lib.hid (fun W (hb : Below w.heap.size w W) => mEachInt_ok fs fa fc 48 #[] W (by omega) (by intros; kernel_rfl) (hr.to hb) (fun k W' hk hb' => by have := hok.f1 k (by omega); exact mForce_ok k _ W' (by omega) (by omega)))
  have HSF := Lib.hid (fun W (hb : Below w.heap.size w W) => mStiffnesses_ok ks sp a cap W hn5 hok.k1 (h.to hb))
  have HBK := Lib.hid (fun W bz (hb : Below w.heap.size w W) (hz : Blk W bz #[.slice fa fs.length fc]) => back_in 4 fs fa fc bz W (by omega) hz (hr.to hb))
  have HFR := Lib.hid (hr)
  obtain ⟨n, hn⟩ : ∃ n, ks.length = n := ⟨_, rfl⟩
  rw [hlen] at HEI HBK HFR ⊢
  rw [hn] at HCF HEI HSF HBK HFR hn0 hn5 ⊢
  have HKN := Lib.hid hn
  have HFN := Lib.hid (hlen.trans hn)
  have HMK := Lib.hid (make_fracs n (by omega))
  clear h hr hok hlen hn
  refine (callsIn_wide (n := 5)).1 ?_
  refine callsIn_of_wp_marks Try.func7 rfl trivial ?_ rfl
  simp only [Try.ntmps7, List.size_toArray, List.length_cons, List.length_nil, Nat.reduceAdd, Nat.reduceSub, Array.replicate_succ, Array.replicate_zero, List.push_toArray, List.append_toArray, List.nil_append, List.cons_append]
  gi_wp2_with fail
  obtain ⟨W, hW⟩ : ∃ W, w.alloc (.cells #[.slice a n cap] 29) = W := ⟨_, rfl⟩
  rw [hW]
  have K2 : Hid (Blk W w.heap.size #[.slice a n cap]) := by subst hW; exact Lib.hid (Blk.new _ _ _)
  have HB : Hid (Below w.heap.size w W) := by subst hW; exact Lib.hid (bAlloc (bSelf w) _)
  clear hW
  refine ⟨trivial, (callsIn_wide.2 (HCF.out _ HB.out)).mono ?_⟩
  rintro e w3 ⟨rfl, hb⟩
  replace K2 := Lib.hid (K2.out.to hb)
  replace HB := Lib.hid (bThen HB.out hb)
  clear hb HCF
  obtain ⟨-, k2, -⟩ := K2.out
  gi_wp2_with fail
  refine ⟨trivial, (callsIn_wide.2 (mUnless_any _ _ _)).mono ?_⟩
  rintro e w' ⟨rfl, rfl⟩
  gi_wp2_with fail
  refine ⟨trivial, (callsIn_wide.2 (mFirst2_new _ _ _ _ (by simp))).mono ?_⟩
  rintro e w' ⟨rfl, rfl⟩
  obtain ⟨w4, hw4⟩ : ∃ W, w3.alloc (.cells #[.int .i64 0, .int .i64 (unl true 10)] 36) = W := ⟨_, rfl⟩
  rw [hw4]
  replace K2 : Hid (Blk w4 w.heap.size #[.slice a n cap]) := by subst hw4; exact Lib.hid (K2.out.alloc _)
  replace HB : Hid (Below w.heap.size w w4) := by subst hw4; exact Lib.hid (bAlloc HB.out _)
  clear hw4 k2
  obtain ⟨-, k2, -⟩ := K2.out
  gi_wp2_with fail
  refine ⟨trivial, (callsIn_wide.2 (HEI.out _ HB.out)).mono ?_⟩
  rintro e w5 ⟨rfl, hb⟩
  replace K2 := Lib.hid (K2.out.to hb)
  replace HB := Lib.hid (bThen HB.out hb)
  clear hb HEI k2
  have hmk := HMK.out
  have hs5 := K2.out.1
  have k2 : ((((w5.alloc (.cells (madeCells #[.int .i64 0, .int .i64 0] (n * 2)) 55)).alloc (.cells #[.slice (some ⟨w5.heap.size, 0, none⟩) n n] 35)).alloc (.cells #[.int .i64 0] 3)).cell? ⟨w.heap.size, 0, none⟩) = some (.slice a n cap) := (((K2.out.alloc _).alloc _).alloc _).2.1 0
  gi_wp2_with fail
  clear hmk HMK k2
  obtain ⟨w6, hw6⟩ : ∃ W, ((w5.alloc (.cells (madeCells #[.int .i64 0, .int .i64 0] (n * 2)) 55)).alloc (.cells #[.slice (some ⟨w5.heap.size, 0, none⟩) n n] 35)).alloc (.cells #[.int .i64 0] 3) = W := ⟨_, rfl⟩
  rw [hw6]
  have hs6 : w6.heap.size = w5.heap.size + 3 := by subst hw6; simp
  have KR : Hid (Blk w6 w5.heap.size (madeCells #[.int .i64 0, .int .i64 0] (n * 2))) := by subst hw6; exact Lib.hid (((Blk.new _ _ _).alloc _).alloc _)
  have K10 : Hid (Blk w6 (w5.heap.size + 1) #[.slice (some ⟨w5.heap.size, 0, none⟩) n n]) := by subst hw6; exact Lib.hid ((Blk.newAt _ _ _ (by simp)).alloc _)
  have K11 : Hid (Blk w6 (w5.heap.size + 1 + 1) #[.int .i64 0]) := by subst hw6; exact Lib.hid (Blk.newAt _ _ _ (by simp))
  replace HB : Hid (Below w.heap.size w w6) := by subst hw6; exact Lib.hid (bAlloc (bAlloc (bAlloc HB.out _) _) _)
  clear hw6
  refine ⟨trivial, (callsIn_wide.2 (HSF.out _ HB.out)).mono ?_⟩
  rintro e w7 ⟨ka, kc, rfl, -, hkr, hb, hkl0⟩
  have hs7 := hb.size
  replace KR := Lib.hid (KR.out.to hb)
  replace K10 := Lib.hid (K10.out.to hb)
  replace K11 := Lib.hid (K11.out.to hb)
  replace HB := Lib.hid (bThen HB.out hb)
  have HKR := Lib.hid hkr
  clear hb hkr HSF
  gi_wp2_with fail
  refine ⟨trivial, (callsIn_wide.2 (Backward_any _ _ _ _)).mono ?_⟩
  rintro e w' ⟨rfl, rfl⟩
  obtain ⟨w8, hw8⟩ : ∃ W, (w7.alloc (.cells #[.slice ka n kc] 22)).alloc (.cells #[.slice fa n fc] 22) = W := ⟨_, rfl⟩
  rw [hw8]
  have hs8 : w8.heap.size = w7.heap.size + 2 := by subst hw8; simp
  have KZ : Hid (Blk w8 (w7.heap.size + 1) #[.slice fa n fc]) := by subst hw8; exact Lib.hid (Blk.newAt _ _ _ (by simp))
  have hHB : Below w.heap.size w w8 := by subst hw8; exact bAlloc (bAlloc HB.out _) _
  have HO : Hid (DriI ks fs n w5.heap.size (w5.heap.size + 1) (w5.heap.size + 1 + 1) w7.heap.size ka kc w [] (fun k => k = w5.heap.size ∨ k = w5.heap.size + 1 + 1) w8) := by
    subst hw8
    refine Lib.hid ⟨⟨_, (KR.out.alloc _).alloc _, fun i hi => ?_⟩, (K10.out.alloc _).alloc _, ?_, (Blk.new _ _ _).alloc _, (HKR.out.alloc _).alloc _, hHB, .inl rfl, .inr rfl, fun k hk => ?_, ⟨by omega, by omega, by omega, by omega, by omega⟩, fun b off e => by have := hkl0 _ e; dsimp only at this; omega⟩
    · rw [made_get n i hi]
      unfold recs driF
      rw [List.length_nil, Nat.sub_zero, if_pos (Nat.div_lt_of_lt_mul (by omega))]
    · rw [List.length_nil, Nat.sub_zero, List.drop_of_length_le (by rw [HFN.out]; exact Nat.le_refl _)]
      exact (K11.out.alloc _).alloc _
    · simp only [World.size_alloc]
      rcases hk with rfl | rfl <;> omega
  replace HB := Lib.hid hHB
  have hfl : ∀ b off, fa = some ⟨b, off, none⟩ → b < w.heap.size := fun b off e => by
    obtain ⟨b', off', e', hb, -⟩ := HFR.out.at hn0
    rw [e] at e'; cases e'; exact hb
  have hkl : ∀ b off, ka = some ⟨b, off, none⟩ → b < w7.heap.size := fun b off e => by
    obtain ⟨b', off', e', hb, -⟩ := HKR.out.at hn0
    rw [e] at e'; cases e'; exact hb
  clear hw8 hHB KR K10 K11 K2
  have hs78 : w7.heap.size + 2 ≤ w8.heap.size := by omega
  have hs57 : w5.heap.size + 3 ≤ w7.heap.size := by omega
  have HS8 := Lib.hid hs8
  have HS6 := Lib.hid hs6
  clear hs8 hs6
  clear hkl0
  gi_wp2_with fail
  refine wpIn_rangeFunc_M (xs := backL fs n) rfl (by intro args w; go_simp) (HBK.out w8 (w7.heap.size + 1) HB.out KZ.out) (bSelf _) (fun _ => rfl) ?hRd
    (DriI ks fs n w5.heap.size (w5.heap.size + 1) (w5.heap.size + 1 + 1) w7.heap.size ka kc w) (fun _ _ _ => False) (fun k => k = w5.heap.size ∨ k = w5.heap.size + 1 + 1) ?hM (fun _ _ _ _ h hag => h.agree hag HB.out.size (by omega) (by omega) (by omega) (by omega) (fun b off e => by have := hkl b off e; omega)) (fun _ _ _ _ _ h _ _ => h)
    (fun b pre s M1 a₁ W => DriI ks fs n w5.heap.size (w5.heap.size + 1) (w5.heap.size + 1 + 1) w7.heap.size ka kc w pre M1 W ∧ a₁ = { tmps := (((b.tmps.setIfInBounds 49 (.int .i64 (s.1 : Int))).setIfInBounds 50 (.int .i64 s.2)).setIfInBounds 13 (.int .i64 (s.1 : Int))).setIfInBounds 14 (.int .i64 s.2), defers := [] })
    ?hI1 HO.out ?hassign ?hbody ?hdone (fun _ _ _ _ _ _ _ _ h _ => h.elim)
  case hRd =>
    rintro k (rfl | ⟨h0, off, e⟩)
    · omega
    · have := hfl _ _ e; have := HB.out.size; omega
  case hM =>
    intro k hk
    refine ⟨by rcases hk with rfl | rfl <;> omega, ?_⟩
    rintro (rfl | ⟨h0, off, e⟩)
    · rcases hk with h | h <;> omega
    · have := hfl _ _ e
      rcases hk with rfl | rfl <;> omega
  case hI1 =>
    rintro pre s M1 a₁ Wa Wb ⟨hI, rfl⟩ hag
    exact ⟨hI.agree hag HB.out.size (by omega) (by omega) (by omega) (by omega) (fun b off e => by have := hkl b off e; omega), rfl⟩
  case hassign =>
    intro l pre s rest M1 Wa hxs hI hszA
    gi_wp2_with fail
    exact ⟨M1, ⟨hI, rfl⟩, Upd.refl (fun k hk => (DriJ.fit hI k hk).1)⟩
  case hbody =>
    rintro l pre s rest M1 a₁ Wa hxs ⟨hI, rfl⟩ hszA
    simp only [List.setIfInBounds_toArray, List.set_cons_zero, List.set_cons_succ]
    obtain ⟨j, z⟩ := s
    obtain ⟨e1, e2⟩ := backL_get fs n pre _ rest hxs
    dsimp only at e1 e2
    have hpl : n - pre.length = j + 1 := by omega
    have hI : DriJ ks fs n w5.heap.size (w5.heap.size + 1) (w5.heap.size + 1 + 1) w7.heap.size ka kc w (j + 1) ((fs.drop (j + 1)).sum) M1 Wa := by have := hI; unfold DriI at this; rwa [hpl] at this
    have HI := Lib.hid hI
    have hbd := drop_bd (fs := fs) (fun k hk => HOK.out.f1 k (by rw [HKN.out]; rw [HFN.out] at hk; exact hk)) (n - (j + 1)) (j + 1) (by rw [HFN.out]; omega)
    have hz := HOK.out.f1 j (by rw [HKN.out]; omega)
    have hK := HOK.out.k1 j (by rw [HKN.out]; omega)
    rw [← e2] at hz
    have hds : (fs.drop j).sum = z + (fs.drop (j + 1)).sum := by rw [drop_sum (by rw [HFN.out]; omega), e2]
    obtain ⟨S, hS⟩ : ∃ S, (fs.drop (j + 1)).sum = S := ⟨_, rfl⟩
    rw [hS] at HI hbd hds
    have HDS := Lib.hid hds
    have hjn : j < n := by omega
    have HPL : Hid (n - (pre.length + 1) = j) := Lib.hid (by omega)
    clear hI hxs e1 e2 hpl hS hds
    obtain ⟨-, k11, f11⟩ := HI.out.k11
    have hsa : -1000000 ≤ S ∧ S ≤ 1000000 := by omega
    clear hbd
    gi_wp2_with fail
    clear k11 f11
    obtain ⟨Wb, hWb⟩ : ∃ W, Wa.setCell ⟨w5.heap.size + 1 + 1, 0, none⟩ (.int .i64 (S + z)) = W := ⟨_, rfl⟩
    rw [hWb]
    have HJ : Hid (DriJ ks fs n w5.heap.size (w5.heap.size + 1) (w5.heap.size + 1 + 1) w7.heap.size ka kc w (j + 1) (S + z) M1 Wb) := by subst hWb; exact Lib.hid (HI.out.sum (S + z))
    have HU : Hid (Upd M1 M1 Wa Wb) := by subst hWb; exact Lib.hid (Upd.setCell (fun k hk => (HI.out.fit k hk).1) ⟨w5.heap.size + 1 + 1, 0, none⟩ _ HI.out.m11)
    clear hWb
    obtain ⟨T, hT⟩ : ∃ T, S + z = T := ⟨_, rfl⟩
    have HT : Hid ((fs.drop j).sum = T) := Lib.hid (by rw [HDS.out, ← hT]; omega)
    have hTb : -2000000 ≤ T ∧ T ≤ 2000000 := by omega
    rw [hT] at HJ ⊢
    clear hT HI hsa hz
    obtain ⟨kb, ko, hka, hkb, hkc⟩ := HJ.out.ks.at hjn
    have hkcj := hkc j hjn
    unfold ints at hkcj
    have HDR : Hid (drf ks fs j = fr T (gi ks j)) := Lib.hid (by unfold drf; rw [HT.out])
    obtain ⟨K, hKK⟩ : ∃ K, gi ks j = K := ⟨_, rfl⟩
    rw [hKK] at hkcj hK HDR
    subst hka
    have KC := Lib.hid hkcj
    have HKB := Lib.hid hkb
    have hjnI : decide ((j : Int) < (n : Int)) = true := decide_eq_true (by omega)
    clear hkc hkcj hkb hKK
    refine wpIn_region_quiet_tail 5 (fun w' => Below (World.heap Wb).size (Wb) w') (by kernel_rfl) (by kernel_rfl) (by kernel_rfl) (by rintro ⟨_, _, h⟩; exact h) (Below.refl _ _).drew ?_
    simp only [List.take_succ_cons, List.take_zero, List.drop_succ_cons, List.drop_zero]
    repeat (first | (refine wpQuiet_no (by rfl) ?_; (simp only [Act.put, List.setIfInBounds_toArray, List.set_cons_zero, List.set_cons_succ])) | (refine wpQuiet_yes (by rfl) ?_; apply Exists.intro; refine ⟨fun w1 hb1 => ?_, ?_⟩; (focus (((obtain ⟨-, q11, -⟩ := HJ.out.k11.to hb1; obtain ⟨-, q12, -⟩ := HJ.out.k12.to hb1; have kc := (hb1.cell (p := ⟨kb, ko + j, none⟩) HKB.out).trans KC.out); have hb1 := Lib.hid hb1; go_simp); (try (go_bits; try go_simp)); (first | done | (fail) | (with_reducible rfl) | exact rfl))); (simp only [Act.put, List.setIfInBounds_toArray, List.set_cons_zero, List.set_cons_succ])))
    refine wpQuiet_nil ?_
    intro w1 hb1
    have HJ1 := Lib.hid (HJ.out.to hb1)
    have HU1 := Lib.hid (HU.out.trans (Upd.of_below (fun k hk => (HJ.out.fit k hk).1) hb1))
    have KC1 := Lib.hid ((hb1.cell (p := ⟨kb, ko + j, none⟩) HKB.out).trans KC.out)
    have HKB1 : Hid (kb < w1.heap.size) := Lib.hid (Nat.lt_of_lt_of_le HKB.out hb1.size)
    clear hb1 HJ HU KC HKB
    go_wp2_with fail
    refine (mDivisor_pos T K _ (by omega) (by omega) (by omega) (by omega)).mono ?_
    rintro e w2 ⟨rfl, hb⟩
    have HJ2 := Lib.hid (HJ1.out.to hb)
    have HU2 := Lib.hid (HU1.out.trans (Upd.of_below (fun k hk => (HJ1.out.fit k hk).1) hb))
    have KC2 := Lib.hid ((hb.cell (p := ⟨kb, ko + j, none⟩) HKB1.out).trans KC1.out)
    have HKB2 : Hid (kb < w2.heap.size) := Lib.hid (Nat.lt_of_lt_of_le HKB1.out hb.size)
    have hg0 : 0 < Int.gcd T K := Int.gcd_pos_of_ne_zero_right _ (by omega)
    have hfr0 : fr T K = (T.tdiv (Int.gcd T K : Nat), K.tdiv (Int.gcd T K : Nat)) := rfl
    obtain ⟨g, hg⟩ : ∃ g, ((Int.gcd T K : Nat) : Int) = g := ⟨_, rfl⟩
    rw [hg] at hfr0
    have hgp : 0 < g := by omega
    have HFQ := Lib.hid (HDR.out.trans hfr0)
    clear hb HJ1 HU1 KC1 HKB1 hfr0 hg0 HDR
    rw [hg]
    clear hg
    have hz : (g == 0) = false := by rw [beq_eq_false_iff_ne]; omega
    have hz2 : ¬ g = 0 := by omega
    have q1 : (T.tdiv g).natAbs ≤ 1000000000000000 := tdivB (by omega)
    have q2 : (K.tdiv g).natAbs ≤ 1000000000000000 := tdivB (by omega)
    go_wp2_with fail
    gi_wp2_with fail
    refine wpIn_region_quiet_tail 13 (fun w' => Below (World.heap w2).size (w2) w') (by kernel_rfl) (by kernel_rfl) (by kernel_rfl) (by rintro ⟨_, _, h⟩; exact h) (Below.refl _ _).drew ?_
    simp only [List.take_succ_cons, List.take_zero, List.drop_succ_cons, List.drop_zero]
    repeat (first | (refine wpQuiet_no (by rfl) ?_; (simp only [Act.put, List.setIfInBounds_toArray, List.set_cons_zero, List.set_cons_succ])) | (refine wpQuiet_yes (by rfl) ?_; apply Exists.intro; refine ⟨fun w1 hb1 => ?_, ?_⟩; (focus (((obtain ⟨-, q10, -⟩ := HJ2.out.k10.to hb1; obtain ⟨-, q11, -⟩ := HJ2.out.k11.to hb1; obtain ⟨-, q12, -⟩ := HJ2.out.k12.to hb1; have kc := (hb1.cell (p := ⟨kb, ko + j, none⟩) HKB2.out).trans KC2.out); have hb1 := Lib.hid hb1; go_simp); (try (go_bits; try go_simp)); (try (rw [if_pos (by omega)]; try go_simp)); (first | done | (fail) | (with_reducible rfl) | exact rfl))); (simp only [Act.put, List.setIfInBounds_toArray, List.set_cons_zero, List.set_cons_succ])))
    refine wpQuiet_nil ?_
    intro w1 hb1
    have HJ3 := Lib.hid (HJ2.out.to hb1)
    have HU3 := Lib.hid (HU2.out.trans (Upd.of_below (fun k hk => (HJ2.out.fit k hk).1) hb1))
    clear hb1 HJ2 HU2 KC2 HKB2
    obtain ⟨cur, hcur, hcc⟩ := HJ3.out.row
    obtain ⟨-, hcl, fz⟩ := hcur
    have kn : w1.cell? ⟨w5.heap.size, j * 2, none⟩ = some (.int .i64 0) := by rw [hcl, hcc _ (by omega), recs_at0 (by decide)]; unfold driF; rw [if_pos (Nat.lt_succ_self j)]
    have kd : w1.cell? ⟨w5.heap.size, j * 2 + 1, none⟩ = some (.int .i64 0) := by rw [hcl, hcc _ (by omega), recs_at (by decide)]; unfold driF; rw [if_pos (Nat.lt_succ_self j)]
    clear hcl hcc
    go_wp2_with fail
    gi_wp2_with fail
    have HP := HJ3.out.put
    rw [HFQ.out] at HP
    refine ⟨M1, ?_, ?_⟩
    · unfold DriI
      rw [List.length_append, List.length_cons, List.length_nil, Nat.zero_add, HPL.out, HT.out]
      exact HP
    · exact (HU3.out.trans (Upd.setCell HU3.out.fit ⟨w5.heap.size, j * 2, none⟩ _ HJ3.out.mgo)).trans (Upd.setCell (fun k hk => (by simpa [World.setCell] using HU3.out.fit k hk)) ⟨w5.heap.size, j * 2 + 1, none⟩ _ HJ3.out.mgo)
  case hdone =>
    intro D M1 Wd hD hMD hI hdef
    have hI : DriJ ks fs n w5.heap.size (w5.heap.size + 1) (w5.heap.size + 1 + 1) w7.heap.size ka kc w 0 ((fs.drop 0).sum) M1 Wd := by have := hI; unfold DriI at this; rwa [backL_len, Nat.sub_self] at this
    have HI := Lib.hid hI
    obtain ⟨-, k10, -⟩ := hI.k10
    have HD := Lib.hid hdef
    clear hI hdef
    gi_wp2_with fail
    refine ⟨by simp, .inl ⟨_, _, rfl, run_takeDeferred HD.out, ?_⟩⟩
    obtain ⟨cur, hc, hcc⟩ := HI.out.row
    have hc2 := hc.agreeLow (B := w8.heap.size) (M := fun _ => False) (Agree.putObj Wd D (.deferred none) hD (fun h => h)) (by omega)
    refine ⟨_, results_tmp2 rfl _ _ _, _, _, rfl, Nat.le_refl _, Blk.row hc2 hcc, ?_⟩
    exact HI.out.below.trans ((Below.refl _ _).grown (grownBy_putObj' Wd D _) HI.out.below.size (fun k e => by cases e; have := HB.out.size; omega))

end Go.Proofs.Ytmofgejoogikfaa

/-
  hybridShown: the examples of chapter 8 hold.
-/
namespace Go.Proofs.Ytmofgejoogikfaa
open Go.RowKit

set_option maxHeartbeats 1600000 in
set_option maxRecDepth 100000 in
theorem shown_any (w : World) : Calls Try.prog 5 #[] w fun e w' => e = .returned (.bool true) ∧ Below w.heap.size w w' := by
  have HRUN := Lib.hid (fun (a : Option Addr) (cap : Nat) (W : World) h => RunOf_ok exT [8, 0, 0] a cap W (by decide) h exRun0)
  have HMOV := Lib.hid (fun (a1 a2 : Option Addr) (W : World) h1 h2 => MovedOf_ok [2, 4] [6, 4] a1 a2 2 2 W (by decide) (by decide) h1 h2 exChk)
  rw [exRun] at HRUN
  unfold MovPost at HMOV
  simp only [List.length_cons, List.length_nil, Nat.reduceAdd, exMov] at HRUN HMOV
  go_enter Try.func5, Try.ntmps5
  go_wp2_with fail
  refine (Test_any _).mono ?_
  rintro e w1 ⟨rfl, hb⟩
  have HB := Lib.hid hb
  clear hb
  go_wp2_with fail
  refine (HRUN.out _ _ _ (three_fresh _ _ _ _ _ rfl)).mono ?_
  rintro e w2 ⟨a2, c2, rfl, hr, hb⟩
  replace HB := Lib.hid (bThen (bAlloc HB.out _) hb)
  have HR := Lib.hid hr
  clear hr hb
  go_wp2_with fail
  refine (Chain_any _).mono ?_
  rintro e w7 ⟨b1, b2, rfl, hk, hf, hb⟩
  replace HB := Lib.hid (bThen HB.out hb)
  replace HR := Lib.hid (HR.out.to hb)
  have HK := Lib.hid hk
  have HF := Lib.hid hf
  clear hb hk hf
  go_wp2_with fail
  refine (HMOV.out _ _ _ HK.out HF.out).mono ?_
  rintro e w8 ⟨a8, c8, rfl, -, hu, hb, -⟩
  replace HB := Lib.hid (bThen HB.out hb)
  replace HR := Lib.hid (HR.out.to hb)
  have HU := Lib.hid hu
  clear hb hu HK HF
  go_wp2_with fail
  refine (Ints_any [0, 2, 2, 0] [0, 2, 2, 0] _ _ _ _ _ (by decide) (HR.out.alloc _) (four_fresh _ _ _ _ _ _ rfl)).mono ?_
  rintro e w9 ⟨rfl, hb⟩
  replace HB := Lib.hid (bThen (bAlloc HB.out _) hb)
  replace HU := Lib.hid ((HU.out.alloc (.cells #[.int .i64 0, .int .i64 2, .int .i64 2, .int .i64 0] 3)).to hb)
  clear hb
  rw [decide_eq_true (Eq.refl _)]
  go_wp2_with fail
  refine (Fracs_any [(5, 1), (6, 1)] [(5, 1), (6, 1)] _ _ _ _ _ (by decide) (HU.out.alloc _) (twoF_fresh _ _ _ _ _ _ rfl)).mono ?_
  rintro e wb ⟨rfl, hb⟩
  replace HB := Lib.hid (bThen (bAlloc HB.out _) hb)
  clear hb
  rw [decide_eq_true (Eq.refl _)]
  go_wp2_with fail
  go_ret
  exact ⟨rfl, HB.out⟩

end Go.Proofs.Ytmofgejoogikfaa

