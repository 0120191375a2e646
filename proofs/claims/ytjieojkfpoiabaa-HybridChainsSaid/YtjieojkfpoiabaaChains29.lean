/-
  Texts of this claim, in their build order: Z4.
-/
import Derived.Test.YtjieojkfpoiabaaChains28

/-
  The reference's displacements of a chain: Moved.
-/
namespace Go.Proofs.Ytjieojkfpoiabaa
open Go.RowKit

theorem refO_some {ks fs : List Int} {L : Int} {n k : Nat} {q : Int × Int} (hq : fr (refN ks fs L (k + 1)) L = q) (hf : fits q = true) : refO ks fs L (n + 1) k = (refO ks fs L n (k + 1)).map (q :: ·) := by
  subst hq; rw [refO, if_pos hf]
theorem refO_none {ks fs : List Int} {L : Int} {n k : Nat} {q : Int × Int} (hq : fr (refN ks fs L (k + 1)) L = q) (hf : fits q = false) : refO ks fs L (n + 1) k = none := by
  subst hq; rw [refO, if_neg (by rw [hf]; simp)]
theorem refO_stop {ks fs : List Int} {L : Int} {m k : Nat} {q : Int × Int} {pre : List (Int × Int)} (h : refO ks fs L m 0 = (refO ks fs L (m - k) k).map (pre ++ ·)) (hk : k < m) (hq : fr (refN ks fs L (k + 1)) L = q) (hf : fits q = false) : refO ks fs L m 0 = none := by
  rw [h, show m - k = (m - (k + 1)) + 1 by omega, refO_none hq hf]; rfl
theorem refO_go {ks fs : List Int} {L : Int} {m k : Nat} {q : Int × Int} {pre : List (Int × Int)} (h : refO ks fs L m 0 = (refO ks fs L (m - k) k).map (pre ++ ·)) (hk : k < m) (hq : fr (refN ks fs L (k + 1)) L = q) (hf : fits q = true) :
    refO ks fs L m 0 = (refO ks fs L (m - (k + 1)) (k + 1)).map ((pre ++ [q]) ++ ·) := by
  rw [h, show m - k = (m - (k + 1)) + 1 by omega, refO_some hq hf]
  cases refO ks fs L (m - (k + 1)) (k + 1) <;> simp

def RMPost (o : Option (List (Int × Int))) (w : World) (e : Ending) (w' : World) : Prop :=
  match o with
  | none => e = .returned (.tuple #[.slice none 0 0, .bool false]) ∧ Below w.heap.size w w'
  | some l => ∃ a cap, e = .returned (.tuple #[.slice a l.length cap, .bool true]) ∧ l.length ≤ cap ∧ Reads w' a (l.length * 2) (fracs l) ∧ Below w.heap.size w w' ∧ ∀ p, a = some p → w.heap.size ≤ p.block

/-- What stands at the head of a round. -/
structure RMSt (ks fs : List Int) (L : Int) (a1 a2 : Option Addr) (c1 c2 : Nat) (w : World) (k : Nat) (v : Value) (s : Int) (pre : List (Int × Int)) (wr : World) : Prop where
  hk : k ≤ ks.length
  chain : Blk wr w.heap.size (chV a1 ks.length c1 a2 ks.length c2)
  own : wr.ownsRow (w.heap.size + 1) 86 2 v pre.length (fcells pre)
  bel : Below w.heap.size w wr
  eq : refO ks fs L ks.length 0 = (refO ks fs L (ks.length - k) k).map (pre ++ ·)
  len : pre.length = k
  sum : s = refN ks fs L k
  s0 : -(1700000000000 * (k : Int)) ≤ s
  s1 : s ≤ 1700000000000 * (k : Int)

set_option maxHeartbeats 3200000 in
set_option maxRecDepth 100000 in
theorem rMoved_any (ks fs : List Int) (a1 a2 : Option Addr) (c1 c2 : Nat) (w : World) (hok : ChOk ks fs) (hr1 : Reads w a1 ks.length (ints ks)) (hr2 : Reads w a2 fs.length (ints fs)) :
    Calls Try.prog 56 #[.agg (chV a1 ks.length c1 a2 fs.length c2)] w (RMPost (refO ks fs (lcmP ks ks.length) ks.length 0) w) := by
  rw [hok.len] at hr2 ⊢
  have HOK := Lib.hid hok
  have HR1 := Lib.hid hr1
  have HR2 := Lib.hid hr2
  have hfew := hok.few
  have HLEN := Lib.hid hok.len
  clear hr1 hr2 hok
  go_enter Try.func56, Try.ntmps56
  go_wp2_with fail
  obtain ⟨w3, hw3⟩ : ∃ w3, w.alloc (.cells (chV a1 ks.length c1 a2 ks.length c2) 73) = w3 := ⟨_, rfl⟩
  rw [hw3]
  have K0 : Hid (Blk w3 w.heap.size (chV a1 ks.length c1 a2 ks.length c2)) := by subst hw3; exact Lib.hid (Blk.new _ _ _)
  have HB : Hid (Below w.heap.size w w3) := by subst hw3; exact Lib.hid (bAlloc (bSelf w) _)
  clear hw3
  have hs3 : w.heap.size < w3.heap.size := K0.out.1
  go_loopw [4, 5] (fun cv iv wr => ∃ (k : Nat) (L : Int), k ≤ ks.length ∧ iv = .int .i64 k ∧ cv = .int .i64 L ∧ Hid (L = lcmP ks k) ∧ Hid (Below w3.heap.size w3 wr)) (fun _ iv _ => ks.length - (intOf iv).toNat)
  case atStart => exact ⟨0, 1, Nat.zero_le _, rfl, rfl, Lib.hid rfl, Lib.hid (bSelf w3)⟩
  case round =>
    obtain ⟨k, L, hk, rfl, rfl, hL, hB⟩ := hrel
    obtain ⟨-, k0, -⟩ := K0.out.to hB.out
    by_cases hlt : k < ks.length
    · have hltI : decide ((k : Int) < (ks.length : Int)) = true := decide_eq_true (by omega)
      obtain ⟨b, off, rfl, hb', hc'⟩ := ((HR1.out.to HB.out).to hB.out).at (k := k) hlt
      have KC := Lib.hid (hc' k hlt)
      obtain ⟨g1, g2⟩ := HOK.out.k1 k hlt
      obtain ⟨g, hg, hg0, t0, t1, ht, l0, l1⟩ := lcm_round HOK.out hlt
      have HGC := Lib.hid (fun W => bGcd_any (lcmP ks k) (gi ks k) W (by have := (lcm_bd HOK.out hk).1; have := (lcm_bd HOK.out hk).2.1; omega) (by omega))
      rw [hg] at HGC
      rw [← hL.out] at HGC t0 t1 ht
      obtain ⟨x, hx⟩ : ∃ x, gi ks k = x := ⟨_, rfl⟩
      have KX : Hid (wr.cell? ⟨b, off + k, none⟩ = some (.int .i64 x)) := Lib.hid (by rw [KC.out, ← hx]; rfl)
      rw [hx] at HGC g1 g2 ht
      obtain ⟨t, htt⟩ : ∃ t, L.tdiv g = t := ⟨_, rfl⟩
      rw [htt] at t0 t1 ht
      obtain ⟨N, hN⟩ : ∃ N, lcmP ks (k + 1) = N := ⟨_, rfl⟩
      rw [hN] at ht l0 l1
      have hgz : (g == 0) = false := by rw [beq_eq_false_iff_ne]; omega
      have hgz' : ¬ g = 0 := by omega
      have HT := Lib.hid htt
      have HTN := Lib.hid ht
      have HNN := Lib.hid hN
      have hr1 : -9223372036854775808 ≤ t * x := by omega
      have hr2 : t * x ≤ 9223372036854775807 := by omega
      clear hc' KC hg hx htt ht hN
      go_wp2_with fail
      refine wp_region_quiet_all (fun w' => Below (World.heap wr).size (wr) w') (by kernel_rfl) (by kernel_rfl) (Below.refl _ _).drew ?_
      refine WQ.out ?_
      repeat (first | (refine WQ_no (by rfl) ?_; (simp only [Act.put, List.setIfInBounds_toArray, List.set_cons_zero, List.set_cons_succ])) | (refine WQ_yes (by rfl) ?_; apply Exists.intro; refine ⟨fun w1 hb1 => ?_, ?_⟩; (focus (((obtain ⟨-, k0, -⟩ := (K0.out.to hB.out).below hb1 (Nat.lt_of_lt_of_le (by omega) hB.out.size); have kx := (hb1.cell (p := ⟨b, off + k, none⟩) hb').trans KX.out; have htt := HT.out); have hb1 := Lib.hid hb1; go_simp); (try (go_bits; try go_simp)); (try (rw [if_pos (by omega)]; try go_simp)); (first | done | ((go_at_call 110; refine (HGC.out _).mono ?_; rintro e w' ⟨rfl, hb2⟩; exact ⟨rfl, bThen hb1.out hb2⟩)) | (with_reducible rfl) | exact rfl))); (simp only [Act.put, List.setIfInBounds_toArray, List.set_cons_zero, List.set_cons_succ])))
      refine WQ_nil ?_
      intro w1 hb1
      have hB2 := Lib.hid (hB.out.trans (hb1.mono hB.out.size))
      clear hb1
      go_wp2_with fail
      go_roundw
      case rel => exact ⟨k + 1, t * x, by omega, by go_num, rfl, Lib.hid (HTN.out.trans HNN.out.symm), hB2⟩
      case measure => simp [intOf]; omega
    · have hltI : decide ((k : Int) < (ks.length : Int)) = false := decide_eq_false (by omega)
      have hke : k = ks.length := by omega
      have HLK := Lib.hid (show lcmP ks ks.length = L by rw [← hke]; exact hL.out.symm)
      have hB2 := Lib.hid (bThen HB.out hB.out)
      replace K0 := Lib.hid (K0.out.to hB.out)
      have hL0 : 0 < L := by rw [← HLK.out]; exact (lcm_bd HOK.out (Nat.le_refl _)).1
      have hL1 : L ≤ 232792560 := by rw [← HLK.out]; exact (lcm_bd HOK.out (Nat.le_refl _)).2.1
      have HLD : Hid (∀ j, j < ks.length → gi ks j ∣ L) := Lib.hid (by rw [← HLK.out]; exact (lcm_bd HOK.out (Nat.le_refl _)).2.2)
      clear hke HB hB hL
      go_wp2_with fail
      clear k0
      obtain ⟨wo, hwo⟩ : ∃ wo, wo = wr := ⟨_, rfl⟩
      subst hwo
      have hso : w.heap.size < wo.heap.size := K0.out.1
      go_loopw [6, 7, 8] (fun v sv iv wr => ∃ (k : Nat) (s : Int) (pre : List (Int × Int)), iv = .int .i64 k ∧ sv = .int .i64 s ∧ Hid (RMSt ks fs L a1 a2 c1 c2 w k v s pre wr)) (fun _ _ iv _ => ks.length - (intOf iv).toNat)
      case atStart => exact ⟨0, 0, [], rfl, rfl, Lib.hid ⟨Nat.zero_le _, K0.out, World.ownsRow_nil _ _ _ _, hB2.out, by simp, rfl, rfl, by omega, by omega⟩⟩
      case round =>
        clear K0 hso
        obtain ⟨k, s, pre, rfl, rfl, HI⟩ := hrel
        have hkk := HI.out.hk
        have K0 := Lib.hid HI.out.chain
        by_cases hlt : k < ks.length
        · have hltI : decide ((k : Int) < (ks.length : Int)) = true := decide_eq_true (by omega)
          obtain ⟨b1, o1, rfl, hb1', hc1⟩ := (HR1.out.to HI.out.bel).at (k := k) hlt
          obtain ⟨b2, o2, rfl, hb2', hc2⟩ := (HR2.out.to HI.out.bel).at (k := k) hlt
          have KC1 := Lib.hid (hc1 k hlt)
          have KC2 := Lib.hid (hc2 k hlt)
          obtain ⟨g1, g2⟩ := HOK.out.k1 k hlt
          obtain ⟨f1, f2⟩ := HOK.out.f1 k hlt
          obtain ⟨t0, t1⟩ := tdivL_bd hL0 g1 (HLD.out k hlt)
          have s0 := HI.out.s0
          have s1 := HI.out.s1
          have hlf : fs.length = ks.length := HLEN.out
          obtain ⟨u0, u1⟩ := upTo_bd (fun j hj => HOK.out.f1 j (by omega)) (k + 1) (fs.length - (k + 1)) (by omega)
          have HAB : Hid (∀ W, Below w.heap.size w W → Calls Try.prog 111 #[.agg (chV (some ⟨b1, o1, none⟩) ks.length c1 (some ⟨b2, o2, none⟩) ks.length c2), .int .i64 k] W fun e w' => e = .returned (.int .i64 (upTo fs (k + 1) (fs.length - (k + 1)))) ∧ Below W.heap.size W w') := Lib.hid (fun W hb => by
            have := Above_any fs (some ⟨b1, o1, none⟩) (some ⟨b2, o2, none⟩) ks.length c1 c2 (k + 1) k W (by omega) (by omega) (by omega) (fun j hj => HOK.out.f1 j (by omega)) (by rw [hlf]; exact HR2.out.to hb)
            rw [hlf] at this ⊢
            exact this)
          have HRN : Hid (refN ks fs L (k + 1) = refN ks fs L k + (gi fs k + upTo fs (k + 1) (fs.length - (k + 1))) * L.tdiv (gi ks k)) := Lib.hid rfl
          have u2 : upTo fs (k + 1) (fs.length - (k + 1)) ≤ 6000 := by omega
          have u3 : -6000 ≤ upTo fs (k + 1) (fs.length - (k + 1)) := by omega
          rw [← HI.out.sum] at HRN
          obtain ⟨x, hx⟩ : ∃ x, gi ks k = x := ⟨_, rfl⟩
          obtain ⟨f, hf⟩ : ∃ x, gi fs k = x := ⟨_, rfl⟩
          obtain ⟨u, hu⟩ : ∃ x, upTo fs (k + 1) (fs.length - (k + 1)) = x := ⟨_, rfl⟩
          have KX : Hid (wr.cell? ⟨b1, o1 + k, none⟩ = some (.int .i64 x)) := Lib.hid (by rw [KC1.out, ← hx]; rfl)
          have KF : Hid (wr.cell? ⟨b2, o2 + k, none⟩ = some (.int .i64 f)) := Lib.hid (by rw [KC2.out, ← hf]; rfl)
          rw [hx] at g1 g2 t0 t1 HRN
          rw [hf] at f1 f2 HRN
          rw [hu] at HAB HRN u2 u3
          obtain ⟨t, htt⟩ : ∃ t, L.tdiv x = t := ⟨_, rfl⟩
          rw [htt] at t0 t1 HRN
          have hgz : (x == 0) = false := by rw [beq_eq_false_iff_ne]; omega
          have hgz' : ¬ x = 0 := by omega
          obtain ⟨m1, m2⟩ := mul_bd (a := f + u) (b := t) (A := 7000) (B := 232792560) (by omega) (by omega) (by omega) (by omega)
          have HTT := Lib.hid htt
          have HBEL := Lib.hid HI.out.bel
          have hswr : w.heap.size < wr.heap.size := K0.out.1
          clear hc1 hc2 KC1 KC2 hx hf hu u0 u1 htt
          obtain ⟨-, k0, -⟩ := K0.out
          go_wp2_with fail
          clear k0
          refine wp_region_quiet_all (fun w' => Below (World.heap wr).size (wr) w') (by kernel_rfl) (by kernel_rfl) (Below.refl _ _).drew ?_
          refine WQ.out ?_
          repeat (first | (refine WQ_no (by rfl) ?_; (simp only [Act.put, List.setIfInBounds_toArray, List.set_cons_zero, List.set_cons_succ])) | (refine WQ_yes (by rfl) ?_; apply Exists.intro; refine ⟨fun w1 hb1 => ?_, ?_⟩; (focus (((obtain ⟨-, k0, -⟩ := K0.out.to hb1; have kx := (hb1.cell (p := ⟨b1, o1 + k, none⟩) hb1').trans KX.out; have kf := (hb1.cell (p := ⟨b2, o2 + k, none⟩) hb2').trans KF.out; have htt := HTT.out); have hb1 := Lib.hid hb1; go_simp); (try (go_bits; try go_simp)); (try (rw [if_pos (by omega)]; try go_simp)); (first | done | ((go_at_call 111; refine (HAB.out _ (HBEL.out.trans (hb1.out.mono (by omega)))).mono ?_; rintro e w' ⟨rfl, hb2⟩; exact ⟨rfl, bThen hb1.out hb2⟩)) | (with_reducible rfl) | exact rfl))); (simp only [Act.put, List.setIfInBounds_toArray, List.set_cons_zero, List.set_cons_succ])))
          refine WQ_nil ?_
          intro w1 hb1
          have HB4 := Lib.hid hb1
          have hs4 : wr.heap.size ≤ w1.heap.size := hb1.size
          clear hb1
          go_wp2_with fail
          obtain ⟨S2, hS2⟩ : ∃ x, s + (f + u) * t = x := ⟨_, rfl⟩
          rw [hS2] at HRN ⊢
          have hS0 : -(1700000000000 * ((k + 1 : Nat) : Int)) ≤ S2 := by rw [← hS2]; omega
          have hS1 : S2 ≤ 1700000000000 * ((k + 1 : Nat) : Int) := by rw [← hS2]; omega
          have hSa : S2.natAbs ≤ 1000000000000000 := by omega
          obtain ⟨n2, d2, hnd⟩ : ∃ n2 d2, fr S2 L = (n2, d2) := ⟨_, _, rfl⟩
          have hn2 : n2.natAbs ≤ 1000000000000000 := by have := @fr_bd1 S2 L 1000000000000000 hSa; rw [hnd] at this; exact this
          have hd2 : d2.natAbs ≤ 232792560 := by have := @fr_bd2 S2 L 232792560 (by omega); rw [hnd] at this; exact this
          have HLO := Lib.hid (fun W => Lowest_any S2 L W hSa hL0 (by omega))
          rw [hnd] at HLO
          dsimp only at HLO
          have HND : Hid (fr (refN ks fs L (k + 1)) L = (n2, d2)) := Lib.hid (by rw [HRN.out]; exact hnd)
          clear hnd m1 m2 hS2
          refine (HLO.out _).mono ?_
          rintro e w5 ⟨rfl, hb5⟩
          have hs5 : w1.heap.size ≤ w5.heap.size := hb5.size
          replace HB4 := Lib.hid (bThen HB4.out hb5)
          clear hb5
          go_upto_region 13 with (fail)
          have hb6 : Below w5.heap.size w5 (w5.alloc (.cells #[.int .i64 n2, .int .i64 d2] 86)) := bAlloc (bSelf _) _
          obtain ⟨w6, hw6⟩ : ∃ w6, w5.alloc (.cells #[.int .i64 n2, .int .i64 d2] 86) = w6 := ⟨_, rfl⟩
          have HH6 : Hid (Blk w6 w5.heap.size #[.int .i64 n2, .int .i64 d2]) := by subst hw6; exact Lib.hid (Blk.new _ _ _)
          rw [hw6] at hb6 ⊢
          replace HB4 := Lib.hid (bThen HB4.out hb6)
          clear hb6 hw6
          have HC6 := Lib.hid (HI.out.chain.to HB4.out)
          have HOWN6 := Lib.hid (owns_to HI.out.own HB4.out)
          have HB6 := Lib.hid (bThen HI.out.bel HB4.out)
          obtain ⟨B, hBe⟩ : ∃ B, w5.heap.size = B := ⟨_, rfl⟩
          rw [hBe] at HH6 hs5 ⊢
          clear hBe
          obtain ⟨hBs, kb, -⟩ := HH6.out
          have HSZ := Lib.hid (fun W => Size_any n2 W (by omega) (by omega))
          obtain ⟨z, hz⟩ : ∃ z, sizeI n2 = z := ⟨_, rfl⟩
          have hzz : z = max n2 (-n2) := hz.symm
          rw [hz] at HSZ
          have HEQ := Lib.hid HI.out.eq
          have HLT := Lib.hid hlt
          clear hz
          by_cases hzs : z ≤ 1000000000
          · have hzd : decide (1000000000 < z) = false := decide_eq_false (by omega)
            by_cases hdd : d2 ≤ 1000000000
            · have hdc : decide (1000000000 < d2) = false := decide_eq_false (by omega)
              have hft : fits (n2, d2) = true := by
                unfold fits
                simp only [Bool.and_eq_true, decide_eq_true_eq]
                omega
              go_wp2_with fail
              refine (HSZ.out _).mono ?_
              rintro e w7 ⟨rfl, rfl⟩
              have HROW := Lib.hid (HOWN6.out.alloc (.cells #[.int .i64 n2, .int .i64 d2] 86))
              have HNN := Lib.hid (Blk.new w6 #[.int .i64 n2, .int .i64 d2] 86).news
              have hlo := Lib.hid HOWN6.out.lt
              have hpl := HI.out.len
              have hpl' : pre.length ≤ 6 := by omega
              have HPL := Lib.hid hpl
              have hs6w : w.heap.size + 1 ≤ w6.heap.size := by have := HC6.out.1; omega
              clear hpl
              go_wp2_with (at_builtin; (refine wpList_app (w.heap.size + 1) rtFrac rfl (.tmp 70) (.tmp 72) rfl _ _ _ rfl HROW.out ⟨w6.heap.size, 0, none⟩ 1 1 [.int .i64 n2, .int .i64 d2] rfl rfl HNN.out (ones [n2, d2]) (by unfold maxLen; omega) (by omega) (by simp; omega) ?_; intro v' w8 hown' hgrow _ _; have HO := Lib.hid hown'; have HG7 := Lib.hid hgrow; clear hown' hgrow))
              have HB7 : Hid (Below (w.heap.size + 1) w6 w8) := Lib.hid (((Below.refl _ _).alloc hs6w _).grown HG7.out (by simp; omega) (fun k e => (hlo.out k e).1))
              go_roundw
              case rel =>
                refine ⟨k + 1, S2, pre ++ [(n2, d2)], by go_num, rfl, Lib.hid ⟨by omega, HC6.out.below HB7.out (by omega), ?_, HB6.out.trans (HB7.out.mono (by omega)), refO_go HEQ.out HLT.out HND.out hft, by have := HPL.out; simp; omega, HRN.out.symm, hS0, hS1⟩⟩
                have := HO.out
                rw [List.length_append]
                simp only [fcells, List.flatMap_append] at this ⊢
                exact this
              case measure => simp [intOf]; omega
            · exact absurd hdd (by omega)
          · have hzd : decide (1000000000 < z) = true := decide_eq_true (by omega)
            have hft : fits (n2, d2) = false := by
              unfold fits
              rw [← Bool.decide_and, show decide (-1000000000 ≤ (n2, d2).1 ∧ (n2, d2).1 ≤ 1000000000) = false from decide_eq_false (by dsimp only; omega), Bool.false_and]
            clear hzs hzz
            go_wp2_with fail
            refine (HSZ.out _).mono ?_
            rintro e w7 ⟨rfl, rfl⟩
            go_wp2_with fail
            go_ret2
            unfold RMPost
            rw [HLK.out, refO_stop HEQ.out HLT.out HND.out hft]
            exact ⟨rfl, HB6.out⟩
        · have hltI : decide ((k : Int) < (ks.length : Int)) = false := decide_eq_false (by omega)
          have hke : k = ks.length := by omega
          have HEQ : Hid (refO ks fs L ks.length 0 = some pre) := Lib.hid (by rw [HI.out.eq, hke, Nat.sub_self]; simp [refO])
          have HOWN := Lib.hid HI.out.own
          have HBE := Lib.hid HI.out.bel
          clear hke
          obtain ⟨-, k0, -⟩ := K0.out
          go_wp2_with fail
          go_ret2
          unfold RMPost
          rw [HLK.out, HEQ.out]
          obtain ⟨a', cap', rfl, hcp, hrd, hfr⟩ := Reads.of_row (f := fracs pre) HOWN.out (fun i hi => fcells_get pre i hi)
          exact ⟨a', cap', rfl, hcp, hrd, HBE.out, fun p hp => by have := hfr p hp; omega⟩

end Go.Proofs.Ytjieojkfpoiabaa

