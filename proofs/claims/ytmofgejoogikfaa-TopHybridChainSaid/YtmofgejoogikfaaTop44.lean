/-
  Texts of this claim, in their build order: N2n.
-/
import Derived.Test.YtmofgejoogikfaaTop42
import Derived.Test.YtmofgejoogikfaaTop40
import Derived.Test.YtmofgejoogikfaaTop43
import Derived.Test.YtmofgejoogikfaaTop14
import Derived.Test.YtmofgejoogikfaaTop37
import Derived.Test.YtmofgejoogikfaaTop19
import Derived.Test.YtmofgejoogikfaaTop38
import Derived.Test.YtmofgejoogikfaaTop39

/-
  TopHybridChain: the frame that a chain makes, floor by floor.
-/
namespace Go.Proofs.Ytmofgejoogikfaa
open Go.RowKit

set_option maxHeartbeats 100000000 in
set_option maxRecDepth 100000 in
theorem TopHybridChain_none (ks fs : List Int) (x0 : Int) (a1 a2 : Option Addr) (c1 c2 : Nat) (w : World) (hok : ChOk ks fs) (hn0 : 0 < ks.length) (hn5 : ks.length ≤ 5) (hcf : fs.length ≤ c2) (hck : ks.length ≤ c1)
    (hr1 : Reads w a1 ks.length (ints ks)) (hr2 : Reads w a2 fs.length (ints fs)) (hmo : mvO ks fs = none) :
    Calls Try.prog 3 #[.agg (chV a1 ks.length c1 a2 fs.length c2), .int .i64 x0] w fun e w' => e = .returned (.bool true) ∧ Below w.heap.size w w' := by
  have HMO := Lib.hid hmo
  clear hmo
  have hchk := chkC_of hok hn0
  have hlen := hok.len
  have HCE := Lib.hid (fun W (hb : Below w.heap.size w W) => rChainErr_any ks fs a1 a2 c1 c2 W (by omega) (hr1.to hb) (hr2.to hb))
  have HCC := Lib.hid (fun W (hb : Below w.heap.size w W) => CopyChain_any ks fs a1 a2 c1 c2 W (by omega) (by omega) (hr1.to hb) (hr2.to hb))
  have HCI := Lib.hid (fun W (hb : Below w.heap.size w W) => CopyInts_any fs a2 c2 W (by omega) (hr2.to hb))
  have HCK := Lib.hid (fun W (hb : Below w.heap.size w W) => CopyInts_any ks a1 c1 W (by omega) (hr1.to hb))
  have HST := Lib.hid (fun W x1 x2 e1 e2 (g1 : Reads W x1 ks.length (ints ks)) (g2 : Reads W x2 fs.length (ints fs)) => StiffnessOf_ok ks fs x1 x2 e1 e2 W (by omega) g1 g2 hchk)
  have HDU := Lib.hid (fun W sp a fa cap fc => DriftsUnder_ok ks fs sp a fa cap fc W hok hn0 hn5)
  unfold CPost at HCC
  rw [hchk] at HCE
  obtain ⟨p1, p2, p3⟩ := flex_pos hok hn0
  have hfb := flex_bd hok (Nat.le_refl ks.length)
  have HIL := Lib.hid (fun W => IsLowest_any (flexP ks ks.length).2 (flexP ks ks.length).1 W (by omega) (by omega))
  have hlow : lowB (flexP ks ks.length).2 (flexP ks ks.length).1 = true := by unfold lowB; rw [decide_eq_true p1, p3]; rfl
  rw [hlow] at HIL
  have HTL := Lib.hid (fun (v : Fl) hx hv => top_law (v := v) hok hn0 hx hv)
  have HTK := Lib.hid (fun (x : Int) hx => ok_top (x := x) hok hn0 hx)
  obtain ⟨sd, hsd⟩ : ∃ z, (flexP ks ks.length).1 = z := ⟨_, rfl⟩
  obtain ⟨sn, hsn⟩ : ∃ z, (flexP ks ks.length).2 = z := ⟨_, rfl⟩
  rw [hsd] at HST HIL HTL p1
  rw [hsn] at HST HIL HTL p2
  have HSN := Lib.hid p2
  have HHR1 := Lib.hid hr1
  have HOK := Lib.hid hok
  rw [hlen] at HCE HCC HST HCI HDU hr2 hcf ⊢
  obtain ⟨n, hn⟩ : ∃ n, ks.length = n := ⟨_, rfl⟩
  rw [hn] at HCE HCC HST HCI HCK HDU HTL HTK HHR1 hr2 hcf hck hn0 hn5 hlen ⊢
  have HR1 := HHR1
  have HR2 := Lib.hid hr2
  have HCP1 := Lib.hid hck
  have HCP2 := Lib.hid hcf
  have HKN := Lib.hid hn
  have HFN := Lib.hid hlen
  have q1 : decide (5 < (n : Int)) = false := decide_eq_false (by omega)
  clear hok hchk hlen hn hr1 hr2 hcf hck HHR1 p1 p2 p3 hfb hlow hsd hsn
  go_enter Try.func3, Try.ntmps3
  go_wp2_with fail
  obtain ⟨w3, hw3⟩ : ∃ w3, w.alloc (.cells (chV a1 n c1 a2 n c2) 24) = w3 := ⟨_, rfl⟩
  rw [hw3]
  have K2 : Hid (Blk w3 w.heap.size (chV a1 n c1 a2 n c2)) := by subst hw3; exact Lib.hid (Blk.new _ _ _)
  have HB : Hid (Below w.heap.size w w3) := by subst hw3; exact Lib.hid (bAlloc (bSelf w) _)
  clear hw3
  refine (shown_any _).mono ?_
  rintro e w4 ⟨rfl, hb⟩
  replace K2 := Lib.hid (K2.out.to hb)
  replace HB := Lib.hid (bThen HB.out hb)
  clear hb
  obtain ⟨-, k2, -⟩ := K2.out
  go_wp2_with fail
  refine (HCE.out _ HB.out).mono ?_
  rintro e w5 ⟨rfl, hb⟩
  replace K2 := Lib.hid (K2.out.to hb)
  replace HB := Lib.hid (bThen HB.out hb)
  clear hb k2 q1 HCE
  obtain ⟨-, k2, -⟩ := K2.out
  go_upto_region 6 with (fail)
  clear k2
  obtain ⟨w6, hw6⟩ : ∃ W, w5.alloc (.cells #[.slice none 0 0] 29) = W := ⟨_, rfl⟩
  rw [hw6]
  have hB0 : w.heap.size < w5.heap.size := K2.out.1
  replace K2 : Hid (Blk w6 w.heap.size (chV a1 n c1 a2 n c2)) := by subst hw6; exact Lib.hid (K2.out.alloc _)
  have K5 : Hid (Blk w6 w5.heap.size #[.slice none 0 0]) := by subst hw6; exact Lib.hid (Blk.new _ _ _)
  replace HB : Hid (Below w.heap.size w w6) := by subst hw6; exact Lib.hid (bAlloc HB.out _)
  clear hw6
  obtain ⟨B, hB⟩ : ∃ B, w5.heap.size = B := ⟨_, rfl⟩
  rw [hB] at K5 hB0 ⊢
  clear hB
  have HI0 : Hid (CFI ks B 0 (.slice none 0 0) (fun _ => (none, 0)) w6) := Lib.hid ⟨K5.out, World.ownsRow_nil _ _ _ _, fun j hj => by omega, fun j p hj => by omega⟩
  have HW : Hid (Below B w6 w6) := Lib.hid (Below.refl _ _)
  clear K5
  go_wp2_with fail
  go_loopw [6] (fun i wr => ∃ (k : Nat) (v : Value) (sp' : Nat → Option Addr × Nat), k ≤ n ∧ i = .int .i64 k ∧ Hid (CFI ks B k v sp' wr) ∧ Hid (Below B w6 wr)) (fun i _ => n - (intOf i).toNat)
  case atStart => exact ⟨0, _, _, Nat.zero_le _, rfl, HI0, HW⟩
  case round =>
    obtain ⟨k, v, sp2, hk, rfl, HI, HR⟩ := hrel
    clear HI0 HW
    replace K2 := Lib.hid (K2.out.below HR.out hB0)
    replace HB := Lib.hid (HB.out.trans (HR.out.mono (Nat.le_of_lt hB0)))
    have hBr : B < wr.heap.size := HI.out.kb.1
    have hs2 : w.heap.size < wr.heap.size := K2.out.1
    by_cases hlt : k < n
    · have hltI : decide ((k : Int) < (n : Int)) = true := decide_eq_true (by omega)
      obtain ⟨kb, ko, hka, hkb, hkc⟩ := (HR1.out.to HB.out).at (k := k) hlt
      have kc := hkc k hlt
      unfold ints at kc
      subst hka
      have hKb := HOK.out.k1 k (by rw [HKN.out]; exact hlt)
      have HNX := Lib.hid (fun v' W1 W2 y c => CFI.next (v' := v') (W1 := W1) (W2 := W2) (y := y) (c := c) HI.out)
      obtain ⟨K, hKK⟩ : ∃ K, gi ks k = K := ⟨_, rfl⟩
      rw [hKK] at kc hKb HNX
      clear hkc hKK
      obtain ⟨-, k2, -⟩ := K2.out
      by_cases hK2 : 1 < K
      · skip
        have hK1 : decide (1 < K) = true := decide_eq_true (by omega)
        go_upto_region 12 with (fail)
        obtain ⟨w7, hw7⟩ : ∃ W, ((wr.alloc (.cells #[.int .i64 K, .int .i64 1, .bool false] 31)).alloc (.cells #[.int .i64 1, .int .i64 9, .bool true, .int .i64 (K - 1), .int .i64 2, .bool false] 31)) = W := ⟨_, rfl⟩
        rw [hw7]
        have HY : Hid (Reads w7 (some ⟨wr.heap.size + 1, 0, none⟩) (2 * 3) (recs 3 (elF K))) := by
          subst hw7
          refine Lib.hid (Blk.row (Blk.newAt _ _ _ (by simp)) (fun i hi => ?_))
          have h1 : 1 < K := by omega
          match i, hi with
          | 0, _ => simp [recs, elF, elS, h1]
          | 1, _ => simp [recs, elF, elY, h1]
          | 2, _ => simp [recs, elF, elB, h1]
          | 3, _ => simp [recs, elF, elS, h1]
          | 4, _ => simp [recs, elF, elY, h1]
          | 5, _ => simp [recs, elF, elB, h1]
        have HM : Hid (elN K = 2) := Lib.hid (by unfold elN; rw [if_pos (by omega)])
        have HB7 : Hid (Below wr.heap.size wr w7) := by subst hw7; exact Lib.hid (bAlloc (bAlloc (bSelf _) _) _)
        have hy7 : wr.heap.size + 1 < w7.heap.size := by subst hw7; simp
        clear hw7
        have HK7 := Lib.hid (HI.out.kb.to HB7.out)
        have HROW := Lib.hid ((owns_to HI.out.row HB7.out).alloc (.cells #[.int .i64 ((k : Int) + 1), .int .i64 1, .slice (some ⟨wr.heap.size + 1, 0, none⟩) 2 2] 34))
        have HNN := Lib.hid (Blk.news (Blk.new w7 #[.int .i64 ((k : Int) + 1), .int .i64 1, .slice (some ⟨wr.heap.size + 1, 0, none⟩) 2 2] 34))
        have HLO := Lib.hid (fun g e => (HROW.out.lt g e).1)
        have hs7 : wr.heap.size ≤ w7.heap.size := HB7.out.size
        obtain ⟨-, k5, -⟩ := HK7.out
        clear k2 kc
        go_wp2_with (at_builtin; refine wpList_app (B + 1) rtFl rfl (.tmp 67) (.tmp 72) rfl _ _ _ rfl HROW.out ⟨w7.heap.size, 0, none⟩ 1 1 [.int .i64 ((k : Int) + 1), .int .i64 1, .slice (some ⟨wr.heap.size + 1, 0, none⟩) 2 2] rfl rfl HNN.out (by simp [Value.oneCell']) (by unfold maxLen; omega) (by omega) (by simp; omega) ?_; intro v' w8 hown' hgrow _ hwhere; obtain ⟨g', cp', rfl⟩ := ownsRow_succ hown'; have HO := Lib.hid hown'; have HG := Lib.hid hgrow; have HWH := Lib.hid hwhere; have HK8 := Lib.hid (blk_grown (HK7.out.alloc _) hgrow (fun e => by have := HLO.out _ e; omega)); obtain ⟨-, k8, f8⟩ := HK8.out; clear hown' hgrow hwhere)
        have HB8 : Hid (Below (B + 1) wr w8) := Lib.hid (((HB7.out.mono hBr).alloc (by omega) _).grown HG.out (by simp; omega) (fun g e => HLO.out g e))
        rw [HM.out] at HNX
        go_roundw
        case rel =>
          refine ⟨k + 1, _, _, by omega, by go_num, Lib.hid (HNX.out _ (w7.alloc (.cells #[.int .i64 ((k : Int) + 1), .int .i64 1, .slice (some ⟨wr.heap.size + 1, 0, none⟩) 2 2] 34)) w8 (some ⟨wr.heap.size + 1, 0, none⟩) 2 (bAlloc HB7.out _) (HY.out.alloc _) (fun p hp => by cases hp; dsimp only; omega) (fun p hp => by cases hp; simp; omega) HO.out HG.out HWH.out), Lib.hid ((HR.out.trans (HB8.out.mono (Nat.le_succ B))).setCell (p := ⟨B, 0, none⟩) (Nat.le_refl _) _)⟩
        case measure => simp [intOf]; omega
      · skip
        have hK1 : decide (1 < K) = false := decide_eq_false (by omega)
        go_upto_region 12 with (fail)
        obtain ⟨w7, hw7⟩ : ∃ W, (wr.alloc (.cells #[.int .i64 K, .int .i64 1, .bool false] 31)) = W := ⟨_, rfl⟩
        rw [hw7]
        have HY : Hid (Reads w7 (some ⟨wr.heap.size, 0, none⟩) (1 * 3) (recs 3 (elF K))) := by
          subst hw7
          refine Lib.hid (Blk.row (Blk.newAt _ _ _ (by simp)) (fun i hi => ?_))
          have h1 : ¬ 1 < K := by omega
          match i, hi with
          | 0, _ => simp [recs, elF, elS, h1]
          | 1, _ => simp [recs, elF, elY, h1]
          | 2, _ => simp [recs, elF, elB, h1]
        have HM : Hid (elN K = 1) := Lib.hid (by unfold elN; rw [if_neg (by omega)])
        have HB7 : Hid (Below wr.heap.size wr w7) := by subst hw7; exact Lib.hid (bAlloc (bSelf _) _)
        have hy7 : wr.heap.size < w7.heap.size := by subst hw7; simp
        clear hw7
        have HK7 := Lib.hid (HI.out.kb.to HB7.out)
        have HROW := Lib.hid ((owns_to HI.out.row HB7.out).alloc (.cells #[.int .i64 ((k : Int) + 1), .int .i64 1, .slice (some ⟨wr.heap.size, 0, none⟩) 1 1] 34))
        have HNN := Lib.hid (Blk.news (Blk.new w7 #[.int .i64 ((k : Int) + 1), .int .i64 1, .slice (some ⟨wr.heap.size, 0, none⟩) 1 1] 34))
        have HLO := Lib.hid (fun g e => (HROW.out.lt g e).1)
        have hs7 : wr.heap.size ≤ w7.heap.size := HB7.out.size
        obtain ⟨-, k5, -⟩ := HK7.out
        clear k2 kc
        go_wp2_with (at_builtin; refine wpList_app (B + 1) rtFl rfl (.tmp 67) (.tmp 72) rfl _ _ _ rfl HROW.out ⟨w7.heap.size, 0, none⟩ 1 1 [.int .i64 ((k : Int) + 1), .int .i64 1, .slice (some ⟨wr.heap.size, 0, none⟩) 1 1] rfl rfl HNN.out (by simp [Value.oneCell']) (by unfold maxLen; omega) (by omega) (by simp; omega) ?_; intro v' w8 hown' hgrow _ hwhere; obtain ⟨g', cp', rfl⟩ := ownsRow_succ hown'; have HO := Lib.hid hown'; have HG := Lib.hid hgrow; have HWH := Lib.hid hwhere; have HK8 := Lib.hid (blk_grown (HK7.out.alloc _) hgrow (fun e => by have := HLO.out _ e; omega)); obtain ⟨-, k8, f8⟩ := HK8.out; clear hown' hgrow hwhere)
        have HB8 : Hid (Below (B + 1) wr w8) := Lib.hid (((HB7.out.mono hBr).alloc (by omega) _).grown HG.out (by simp; omega) (fun g e => HLO.out g e))
        rw [HM.out] at HNX
        go_roundw
        case rel =>
          refine ⟨k + 1, _, _, by omega, by go_num, Lib.hid (HNX.out _ (w7.alloc (.cells #[.int .i64 ((k : Int) + 1), .int .i64 1, .slice (some ⟨wr.heap.size, 0, none⟩) 1 1] 34)) w8 (some ⟨wr.heap.size, 0, none⟩) 1 (bAlloc HB7.out _) (HY.out.alloc _) (fun p hp => by cases hp; dsimp only; omega) (fun p hp => by cases hp; simp; omega) HO.out HG.out HWH.out), Lib.hid ((HR.out.trans (HB8.out.mono (Nat.le_succ B))).setCell (p := ⟨B, 0, none⟩) (Nat.le_refl _) _)⟩
        case measure => simp [intOf]; omega
    · have hltI : decide ((k : Int) < (n : Int)) = false := decide_eq_false (by omega)
      obtain rfl : n = k := by omega
      obtain ⟨fa, fp, rfl, -, hfr⟩ := HI.out.frame
      have K5 := Lib.hid HI.out.kb
      have HFR := Lib.hid hfr
      clear hfr HI hlt hk HR
      obtain ⟨-, k2, -⟩ := K2.out
      go_upto_region 13 with (fail)
      clear k2
      refine wp_region_tree (by kernel_rfl) (fun wd hwd => ?_)
      have T := Lib.hid hwd
      clear hwd
      refine WT_yes 0 rfl (by kernel_rfl) (fun _ _ _ _ _ h => h) (by rfl) ?_; apply Exists.intro; refine ⟨fun w1 hb1 => ?_, ?_⟩; (focus (((obtain ⟨-, k5, -⟩ := K5.out.to (T.out.trans hb1)); have hb1 := Lib.hid hb1; go_simp); (try (go_bits; try go_simp)); (try (rw [if_pos (by omega)]; try go_simp)); (first | done | (fail) | (with_reducible rfl) | exact rfl)))
      simp only [Act.put, List.setIfInBounds_toArray, List.set_cons_zero, List.set_cons_succ]
      refine WT_yes 2 rfl (by kernel_rfl) (fun _ _ _ _ _ h => h) (by rfl) ?_; apply Exists.intro; refine ⟨fun w1 hb1 => ?_, ?_⟩; (focus ((skip; have hb1 := Lib.hid hb1; go_simp); (try (go_bits; try go_simp)); (try (rw [if_pos (by omega)]; try go_simp)); (first | done | (fail) | (with_reducible rfl) | exact rfl)))
      simp only [Act.put, List.setIfInBounds_toArray, List.set_cons_zero, List.set_cons_succ]
      refine WT_yes 3 rfl (by kernel_rfl) (fun _ _ _ _ _ h => h) (by rfl) ?_; apply Exists.intro; refine ⟨fun w1 hb1 => ?_, ?_⟩; (focus (((obtain ⟨-, k2, -⟩ := K2.out.to (T.out.trans hb1)); have hb1 := Lib.hid hb1; go_simp); (try (go_bits; try go_simp)); (try (rw [if_pos (by omega)]; try go_simp)); (first | done | (fail) | (with_reducible rfl) | exact rfl)))
      simp only [Act.put, List.setIfInBounds_toArray, List.set_cons_zero, List.set_cons_succ]
      refine WT_one 1 rfl (by kernel_rfl) ?_
      unfold stepT
      go_wp2_with fail
      refine (CopyFrame_ok ks n sp2 fa fp wd hn5 (HFR.out.to T.out)).mono ?_
      rintro e x1 ⟨ga, gp, sp3, rfl, -, hfr, hb⟩
      have HFG := Lib.hid hfr
      have hbd := Lib.hid (hb.mono T.out.size)
      replace T := Lib.hid (T.out.trans hbd.out)
      clear hb hfr
      go_wp2_with fail
      refine ⟨hbd.out, ?_⟩
      clear hbd
      refine WT_one 4 rfl (by kernel_rfl) ?_
      unfold stepT
      go_wp2_with fail
      refine (HCI.out _ (bThen HB.out T.out)).mono ?_
      rintro e x2 ⟨b2, d2, rfl, -, hrd, hb, -⟩
      replace HFG := Lib.hid (HFG.out.to hb)
      have HFI := Lib.hid hrd
      have hbd := Lib.hid (hb.mono T.out.size)
      replace T := Lib.hid (T.out.trans hbd.out)
      clear hb hrd HCI
      go_wp2_with fail
      refine ⟨hbd.out, ?_⟩
      clear hbd
      refine WT_one 5 rfl (by kernel_rfl) ?_
      unfold stepT
      go_wp2_with fail
      refine (HDU.out _ _ _ _ _ _ HFG.out HFI.out).mono ?_
      rintro e w9 ⟨da, dp, rfl, -, hdr, hb⟩
      have HDR := Lib.hid hdr
      have hbd := Lib.hid (hb.mono T.out.size)
      replace T := Lib.hid (T.out.trans hbd.out)
      clear hb hdr HDU HFG HFI
      go_wp2_with fail
      refine ⟨hbd.out, ?_⟩
      clear hbd
      refine WT_yes 6 rfl (by kernel_rfl) (fun _ _ _ _ _ h => h) (by rfl) ?_; apply Exists.intro; refine ⟨fun w1 hb1 => ?_, ?_⟩; (focus ((skip; have hb1 := Lib.hid hb1; go_simp); (try (go_bits; try go_simp)); (try (rw [if_pos (by omega)]; try go_simp)); (first | done | (fail) | (with_reducible rfl) | exact rfl)))
      simp only [Act.put, List.setIfInBounds_toArray, List.set_cons_zero, List.set_cons_succ]
      refine WT_yes 7 rfl (by kernel_rfl) (fun _ _ _ _ _ h => h) (by rfl) ?_; apply Exists.intro; refine ⟨fun w1 hb1 => ?_, ?_⟩; (focus ((skip; have hb1 := Lib.hid hb1; go_simp); (try (go_bits; try go_simp)); (try (rw [if_pos (by omega)]; try go_simp)); (first | done | (fail) | (with_reducible rfl) | exact rfl)))
      simp only [Act.put, List.setIfInBounds_toArray, List.set_cons_zero, List.set_cons_succ]
      refine WT_yes 8 rfl (by kernel_rfl) (fun _ _ _ _ _ h => h) (by rfl) ?_; apply Exists.intro; refine ⟨fun w1 hb1 => ?_, ?_⟩; (focus ((skip; have hb1 := Lib.hid hb1; go_simp); (try (go_bits; try go_simp)); (try (rw [if_pos (by omega)]; try go_simp)); (first | done | (fail) | (with_reducible rfl) | exact rfl)))
      simp only [Act.put, List.setIfInBounds_toArray, List.set_cons_zero, List.set_cons_succ]
      refine WT_yes 9 rfl (by kernel_rfl) (fun _ _ _ _ _ h => h) (by rfl) ?_; apply Exists.intro; refine ⟨fun w1 hb1 => ?_, ?_⟩; (focus ((skip; have hb1 := Lib.hid hb1; go_simp); (try (go_bits; try go_simp)); (try (rw [if_pos (by omega)]; try go_simp)); (first | done | (fail) | (with_reducible rfl) | exact rfl)))
      simp only [Act.put, List.setIfInBounds_toArray, List.set_cons_zero, List.set_cons_succ]
      refine WT_yes 10 rfl (by kernel_rfl) (fun _ _ _ _ _ h => h) (by rfl) ?_; apply Exists.intro; refine ⟨fun w1 hb1 => ?_, ?_⟩; (focus ((skip; have hb1 := Lib.hid hb1; go_simp); (try (go_bits; try go_simp)); (try (rw [if_pos (by omega)]; try go_simp)); (first | done | (fail) | (with_reducible rfl) | exact rfl)))
      simp only [Act.put, List.setIfInBounds_toArray, List.set_cons_zero, List.set_cons_succ]
      refine WT_done (by kernel_rfl) ?_
      replace K2 := Lib.hid (K2.out.to T.out)
      replace HB := Lib.hid (bThen HB.out T.out)
      clear K5 HFR T
      clear hltI hBr hs2 hB0
      have hchk := chkC_of HOK.out (by rw [HKN.out]; exact hn0)
      have hok := HOK.out
      obtain ⟨nd, hnd⟩ : ∃ nd : Nat, x0 % (n : Int) = (nd : Int) := ⟨(x0 % (n : Int)).toNat, by have := Int.emod_nonneg x0 (show (n : Int) ≠ 0 by omega); omega⟩
      have hndn : nd < n := by have := Int.emod_lt_of_pos x0 (show (0 : Int) < n by omega); omega
      have hnd0 : ndE ks fs nd = 0 := node_ok hchk (by rw [HKN.out, decide_eq_true (show (0 : Int) ≤ (nd : Int) by omega), decide_eq_true (show (nd : Int) ≤ (n : Int) - 1 by omega)]; rfl)
      have HMD := Lib.hid (fun W => Mod_any x0 n W (by omega) (by omega))
      rw [hnd] at HMD
      have HMU := Lib.hid (fun W y1 y2 e1 e2 (ge : fs.length ≤ e2) (g1 : Reads W y1 ks.length (ints ks)) (g2 : Reads W y2 fs.length (ints fs)) => MovedOf_u ks fs y1 y2 e1 e2 W (by rw [HKN.out]; omega) ge g1 g2)
      have HHU := Lib.hid (fun W y1 y2 e1 e2 (ge : fs.length ≤ e2) (g1 : Reads W y1 ks.length (ints ks)) (g2 : Reads W y2 fs.length (ints fs)) => HalvesOf_u ks fs nd y1 y2 e1 e2 W (by rw [HKN.out]; omega) ge g1 g2)
      unfold MUPost at HMU
      unfold HUPost at HHU
      rw [HKN.out, HFN.out] at HMU HHU
      clear hnd
      have hmo := HMO.out
      have e1 : mvR ks fs = ([], 8) := by unfold mvR; rw [hchk, hmo]; rfl
      have e2 : hvR ks fs nd = (([], [], 0), 8) := by unfold hvR; rw [hnd0, hmo]; rfl
      rw [e1] at HMU
      rw [e2] at HHU
      dsimp only at HMU HHU
      simp only [List.length_nil] at HMU HHU
      clear e1 e2 hmo
      as_aux_lemma =>
        obtain ⟨-, k2, -⟩ := K2.out
        go_wp2_with fail
        refine (HCC.out _ HB.out).mono ?_
        rintro e x14 ⟨y1, e1, y2, e2, rfl, -, ge, g1, g2, hb, -, -⟩
        replace K2 := Lib.hid (K2.out.to hb)
        replace HDR := Lib.hid (HDR.out.to hb)
        replace HB := Lib.hid (bThen HB.out hb)
        have G1 := Lib.hid g1
        have G2 := Lib.hid g2
        have GE := Lib.hid ge
        clear hb k2 g1 g2 ge
        go_wp2_with fail
        refine (HMU.out _ _ _ _ _ GE.out G1.out G2.out).mono ?_
        rintro e wH ⟨am, cm, rfl, -, hb⟩
        replace K2 := Lib.hid (K2.out.to hb)
        replace HDR := Lib.hid (HDR.out.to hb)
        replace HB := Lib.hid (bThen HB.out hb)
        clear hb G1 G2 GE
        obtain ⟨-, k2, -⟩ := K2.out
        go_wp2_with fail
        refine (HMD.out _).mono ?_
        rintro e w' ⟨rfl, rfl⟩
        clear HMD
        go_wp2_with fail
        refine (HCC.out _ HB.out).mono ?_
        rintro e x16 ⟨y1, e1, y2, e2, rfl, -, ge, g1, g2, hb, -, -⟩
        replace K2 := Lib.hid (K2.out.to hb)
        replace HDR := Lib.hid (HDR.out.to hb)
        replace HB := Lib.hid (bThen HB.out hb)
        have G1 := Lib.hid g1
        have G2 := Lib.hid g2
        have GE := Lib.hid ge
        clear hb k2 g1 g2 ge
        go_wp2_with fail
        refine (HHU.out _ _ _ _ _ GE.out G1.out G2.out).mono ?_
        rintro e wI ⟨p1, f1, p2, f2, rfl, -, -, hb⟩
        replace K2 := Lib.hid (K2.out.to hb)
        replace HDR := Lib.hid (HDR.out.to hb)
        replace HB := Lib.hid (bThen HB.out hb)
        clear hb G1 G2 GE HHU
        go_upto_region 17 with (fail)
        obtain ⟨wJ, hw⟩ : ∃ W, wI.alloc (.cells (hvV p1 0 f1 p2 0 f2 0) 45) = W := ⟨_, rfl⟩
        rw [hw]
        have hb : Below wI.heap.size wI wJ := by subst hw; exact bAlloc (bSelf _) _
        have K15 : Hid (Blk wJ wI.heap.size (hvV p1 0 f1 p2 0 f2 0)) := by subst hw; exact Lib.hid (Blk.new _ _ _)
        replace K2 := Lib.hid (K2.out.to hb)
        replace HDR := Lib.hid (HDR.out.to hb)
        replace HB := Lib.hid (bThen HB.out hb)
        clear hb hw
        obtain ⟨B15, hB⟩ : ∃ B, wI.heap.size = B := ⟨_, rfl⟩
        rw [hB] at K15 ⊢
        clear hB
        clear K15 HDR
        obtain ⟨-, k2, -⟩ := K2.out
        go_wp2_with fail
        refine (HCC.out _ HB.out).mono ?_
        rintro e x42 ⟨y1, e1, y2, e2, rfl, -, ge, g1, g2, hb, -, -⟩
        replace K2 := Lib.hid (K2.out.to hb)
        replace HB := Lib.hid (bThen HB.out hb)
        have G1 := Lib.hid g1
        have G2 := Lib.hid g2
        have GE := Lib.hid ge
        clear hb k2 g1 g2 ge
        go_wp2_with fail
        refine (HST.out _ _ _ _ _ G1.out G2.out).mono ?_
        rintro e wA ⟨rfl, hb⟩
        replace K2 := Lib.hid (K2.out.to hb)
        replace HB := Lib.hid (bThen HB.out hb)
        clear hb G1 G2 GE HST
        go_upto_region 43 with (fail)
        obtain ⟨wB, hw⟩ : ∃ W, wA.alloc (.cells #[.int .i64 sn, .int .i64 sd] 55) = W := ⟨_, rfl⟩
        rw [hw]
        have hb : Below wA.heap.size wA wB := by subst hw; exact bAlloc (bSelf _) _
        have K5 : Hid (Blk wB wA.heap.size #[.int .i64 sn, .int .i64 sd]) := by subst hw; exact Lib.hid (Blk.new _ _ _)
        replace K2 := Lib.hid (K2.out.to hb)
        replace HB := Lib.hid (bThen HB.out hb)
        clear hb hw
        obtain ⟨B5, hB⟩ : ∃ B, wA.heap.size = B := ⟨_, rfl⟩
        rw [hB] at K5 ⊢
        clear hB
        have hsn1 : decide (sn < 1) = false := decide_eq_false (by have := HSN.out; omega)
        obtain ⟨-, k5, -⟩ := K5.out
        go_wp2_with fail
        refine (HIL.out _).mono ?_
        rintro e wF ⟨rfl, hb⟩
        replace K2 := Lib.hid (K2.out.to hb)
        replace K5 := Lib.hid (K5.out.to hb)
        replace HB := Lib.hid (bThen HB.out hb)
        clear hb k5
        by_cases hbig : 1000 < sn
        · have hbg : decide (1000 < sn) = true := decide_eq_true hbig
          have hps : decide (0 < sn) = true := decide_eq_true HSN.out
          obtain ⟨-, k5, -⟩ := K5.out
          go_wp2_with fail
          refine (HIL.out _).mono ?_
          rintro e wG ⟨rfl, hb⟩
          replace K2 := Lib.hid (K2.out.to hb)
          replace K5 := Lib.hid (K5.out.to hb)
          replace HB := Lib.hid (bThen HB.out hb)
          clear hb k5
          obtain ⟨-, k5, -⟩ := K5.out
          go_wp2_with fail
          go_ret
          exact ⟨rfl, HB.out⟩
        · have hbg : decide (1000 < sn) = false := decide_eq_false hbig
          obtain ⟨-, k5, -⟩ := K5.out
          go_upto_region 45 with (fail)
          clear k5
          have HMK := Lib.hid (fun W => make_ints n (by omega) W)
          go_cut [23] from 266 to 273 (fun s wc => ∃ (g B : Nat) (y : Option Addr) (e : Nat), s = .pointer (some ⟨B, 0, none⟩) ∧ Hid (TopI ks n wF g B y e (List.replicate n 0) wc))
          case first =>
            have HCKD := Lib.hid (fun W (hb : Below wF.heap.size wF W) => HCK.out W (bThen HB.out hb))
            refine wp_region_treeT 9 (by kernel_rfl) (by kernel_rfl) (fun wd hwd => ?_)
            have T := Lib.hid hwd
            clear hwd
            refine WE_yes 0 rfl (by kernel_rfl) (fun _ _ _ _ _ h => h) (by rfl) ?_; apply Exists.intro; refine ⟨fun w1 hb1 => ?_, ?_⟩; (focus ((skip; have hb1 := Lib.hid hb1; go_simp); (try (go_bits; try go_simp)); (try (rw [if_pos (by omega)]; try go_simp)); (first | done | (fail) | (with_reducible rfl) | exact rfl)))
            simp only [Act.put, List.setIfInBounds_toArray, List.set_cons_zero, List.set_cons_succ]
            refine WE_yes 1 rfl (by kernel_rfl) (fun _ _ _ _ _ h => h) (by rfl) ?_; apply Exists.intro; refine ⟨fun w1 hb1 => ?_, ?_⟩; (focus (((obtain ⟨-, k2, -⟩ := K2.out.to (T.out.trans hb1)); have hb1 := Lib.hid hb1; go_simp); (try (go_bits; try go_simp)); (try (rw [if_pos (by omega)]; try go_simp)); (first | done | (fail) | (with_reducible rfl) | exact rfl)))
            simp only [Act.put, List.setIfInBounds_toArray, List.set_cons_zero, List.set_cons_succ]
            refine WE_yes 3 rfl (by kernel_rfl) (fun _ _ _ _ _ h => h) (by rfl) ?_; apply Exists.intro; refine ⟨fun w1 hb1 => ?_, ?_⟩; (focus ((skip; have hb1 := Lib.hid hb1; go_simp); (try (go_bits; try go_simp)); (try (rw [if_pos (by omega)]; try go_simp)); (first | done | (fail) | (with_reducible rfl) | exact rfl)))
            simp only [Act.put, List.setIfInBounds_toArray, List.set_cons_zero, List.set_cons_succ]
            refine WE_yes 4 rfl (by kernel_rfl) (fun _ _ _ _ _ h => h) (by rfl) ?_; apply Exists.intro; refine ⟨fun w1 hb1 => ?_, ?_⟩; (focus (((obtain ⟨-, k2, -⟩ := K2.out.to (T.out.trans hb1)); have hb1 := Lib.hid hb1; go_simp); (try (go_bits; try go_simp)); (try (rw [if_pos (by omega)]; try go_simp)); (first | done | (fail) | (with_reducible rfl) | exact rfl)))
            simp only [Act.put, List.setIfInBounds_toArray, List.set_cons_zero, List.set_cons_succ]
            refine WE_yes 5 rfl (by kernel_rfl) (fun _ _ _ _ _ h => h) (by rfl) ?_; apply Exists.intro; refine ⟨fun w1 hb1 => ?_, ?_⟩; (focus ((skip; have hb1 := Lib.hid hb1; go_simp); (try (go_bits; try go_simp)); (try (rw [if_pos (by omega)]; try go_simp)); (first | done | (fail) | (with_reducible rfl) | exact rfl)))
            simp only [Act.put, List.setIfInBounds_toArray, List.set_cons_zero, List.set_cons_succ]
            refine WE_three 2 6 8 rfl rfl rfl (by decide) (by decide) (by decide) (by kernel_rfl) ?_ ?_ ?_
            · skip
              unfold stepE
              go_wp2_with fail
              refine (HCKD.out _ T.out).mono ?_
              rintro ee wx1 ⟨y, e', rfl, hge, hrd, hb, hfr⟩
              have HY := Lib.hid hrd
              have hbd := Lib.hid (hb.mono T.out.size)
              clear hb hrd hfr
              replace T := Lib.hid (T.out.trans hbd.out)
              go_wp2_with fail
              refine ⟨hbd.out, ?_⟩
              clear hbd
              refine WE_two 6 8 rfl rfl (by decide) (by decide) (by kernel_rfl) ?_ ?_
              · skip
                unfold stepE
                have hmk := HMK.out
                go_wp2_with fail
                clear hmk
                obtain ⟨wx2, hw⟩ : ∃ z, wx1.alloc (.cells (madeCells #[.int .i64 0] n) 3) = z := ⟨_, rfl⟩
                rw [hw]
                have hb : Below wx1.heap.size wx1 wx2 := by subst hw; exact bAlloc (bSelf _) _
                have HG : Hid (OutB wx2 wx1.heap.size (List.replicate n 0)) := by subst hw; exact Lib.hid (OutB.new wx1 n)
                have hbd := Lib.hid (hb.mono T.out.size)
                have G0 : Hid (wF.heap.size ≤ wx1.heap.size) := Lib.hid T.out.size
                have NYG : Hid (∀ p, y = some p → p.block ≠ wx1.heap.size) := Lib.hid (fun p hp => by have h2 := HY.out.blt (by omega) p hp; omega)
                replace HY := Lib.hid (HY.out.to hb)
                clear hb hw
                obtain ⟨g, hz⟩ : ∃ g, wx1.heap.size = g := ⟨_, rfl⟩
                rw [hz] at HG G0 NYG ⊢
                clear hz
                replace T := Lib.hid (T.out.trans hbd.out)
                refine ⟨hbd.out, ?_⟩
                clear hbd
                refine WE_two 7 8 rfl rfl (by decide) (by decide) (by kernel_rfl) ?_ ?_
                · skip
                  unfold stepE
                  go_wp2_with fail
                  refine ⟨Below.refl _ _, ?_⟩
                  refine WE_one 8 rfl (by decide) (by kernel_rfl) ?_
                  unfold stepE
                  go_wp2_with fail
                  obtain ⟨wx4, hw⟩ : ∃ z, wx2.alloc (.cells (#[.slice none 0 0, .slice none 0 0]) 24) = z := ⟨_, rfl⟩
                  rw [hw]
                  have hb : Below wx2.heap.size wx2 wx4 := by subst hw; exact bAlloc (bSelf _) _
                  have KB : Hid (Blk wx4 wx2.heap.size #[.slice none 0 0, .slice none 0 0]) := by subst hw; exact Lib.hid (Blk.new _ _ _)
                  have hbd := Lib.hid (hb.mono T.out.size)
                  have B0 : Hid (wF.heap.size ≤ wx2.heap.size) := Lib.hid T.out.size
                  have NGB : Hid (g ≠ wx2.heap.size) := Lib.hid (by have h2 := HG.out.1; omega)
                  have NYB : Hid (∀ p, y = some p → p.block ≠ wx2.heap.size) := Lib.hid (fun p hp => by have h2 := HY.out.blt (by omega) p hp; omega)
                  replace HG := Lib.hid (HG.out.to hb)
                  replace HY := Lib.hid (HY.out.to hb)
                  clear hb hw
                  obtain ⟨B, hz⟩ : ∃ g, wx2.heap.size = g := ⟨_, rfl⟩
                  rw [hz] at KB B0 NGB NYB ⊢
                  clear hz
                  replace T := Lib.hid (T.out.trans hbd.out)
                  refine ⟨hbd.out, ?_⟩
                  clear hbd
                  refine WE_tail rfl (by kernel_rfl) ?_
                  simp only [List.drop_succ_cons, List.drop_zero]
                  have HTI := Lib.hid (TopI.of KB.out HG.out HY.out NGB.out hge (fun p hp => NYG.out p hp) (fun p hp => NYB.out p hp) T.out G0.out B0.out)
                  obtain ⟨-, kb, fb⟩ := KB.out
                  go_wp2_with fail
                  clear kb fb
                  go_meet
                  case rel => exact ⟨g, B, y, e', rfl, HTI⟩
                · skip
                  unfold stepE
                  go_wp2_with fail
                  obtain ⟨wx5, hw⟩ : ∃ z, wx2.alloc (.cells (#[.slice none 0 0, .slice none 0 0]) 24) = z := ⟨_, rfl⟩
                  rw [hw]
                  have hb : Below wx2.heap.size wx2 wx5 := by subst hw; exact bAlloc (bSelf _) _
                  have KB : Hid (Blk wx5 wx2.heap.size #[.slice none 0 0, .slice none 0 0]) := by subst hw; exact Lib.hid (Blk.new _ _ _)
                  have hbd := Lib.hid (hb.mono T.out.size)
                  have B0 : Hid (wF.heap.size ≤ wx2.heap.size) := Lib.hid T.out.size
                  have NGB : Hid (g ≠ wx2.heap.size) := Lib.hid (by have h2 := HG.out.1; omega)
                  have NYB : Hid (∀ p, y = some p → p.block ≠ wx2.heap.size) := Lib.hid (fun p hp => by have h2 := HY.out.blt (by omega) p hp; omega)
                  replace HG := Lib.hid (HG.out.to hb)
                  replace HY := Lib.hid (HY.out.to hb)
                  clear hb hw
                  obtain ⟨B, hz⟩ : ∃ g, wx2.heap.size = g := ⟨_, rfl⟩
                  rw [hz] at KB B0 NGB NYB ⊢
                  clear hz
                  replace T := Lib.hid (T.out.trans hbd.out)
                  refine ⟨hbd.out, ?_⟩
                  clear hbd
                  refine WE_one 7 rfl (by decide) (by kernel_rfl) ?_
                  unfold stepE
                  go_wp2_with fail
                  refine ⟨Below.refl _ _, ?_⟩
                  refine WE_tail rfl (by kernel_rfl) ?_
                  simp only [List.drop_succ_cons, List.drop_zero]
                  have HTI := Lib.hid (TopI.of KB.out HG.out HY.out NGB.out hge (fun p hp => NYG.out p hp) (fun p hp => NYB.out p hp) T.out G0.out B0.out)
                  obtain ⟨-, kb, fb⟩ := KB.out
                  go_wp2_with fail
                  clear kb fb
                  go_meet
                  case rel => exact ⟨g, B, y, e', rfl, HTI⟩
              · skip
                unfold stepE
                go_wp2_with fail
                obtain ⟨wx7, hw⟩ : ∃ z, wx1.alloc (.cells (#[.slice none 0 0, .slice none 0 0]) 24) = z := ⟨_, rfl⟩
                rw [hw]
                have hb : Below wx1.heap.size wx1 wx7 := by subst hw; exact bAlloc (bSelf _) _
                have KB : Hid (Blk wx7 wx1.heap.size #[.slice none 0 0, .slice none 0 0]) := by subst hw; exact Lib.hid (Blk.new _ _ _)
                have hbd := Lib.hid (hb.mono T.out.size)
                have B0 : Hid (wF.heap.size ≤ wx1.heap.size) := Lib.hid T.out.size
                have NYB : Hid (∀ p, y = some p → p.block ≠ wx1.heap.size) := Lib.hid (fun p hp => by have h2 := HY.out.blt (by omega) p hp; omega)
                replace HY := Lib.hid (HY.out.to hb)
                clear hb hw
                obtain ⟨B, hz⟩ : ∃ g, wx1.heap.size = g := ⟨_, rfl⟩
                rw [hz] at KB B0 NYB ⊢
                clear hz
                replace T := Lib.hid (T.out.trans hbd.out)
                refine ⟨hbd.out, ?_⟩
                clear hbd
                refine WE_one 6 rfl (by decide) (by kernel_rfl) ?_
                unfold stepE
                have hmk := HMK.out
                go_wp2_with fail
                clear hmk
                obtain ⟨wx8, hw⟩ : ∃ z, wx7.alloc (.cells (madeCells #[.int .i64 0] n) 3) = z := ⟨_, rfl⟩
                rw [hw]
                have hb : Below wx7.heap.size wx7 wx8 := by subst hw; exact bAlloc (bSelf _) _
                have HG : Hid (OutB wx8 wx7.heap.size (List.replicate n 0)) := by subst hw; exact Lib.hid (OutB.new wx7 n)
                have hbd := Lib.hid (hb.mono T.out.size)
                have G0 : Hid (wF.heap.size ≤ wx7.heap.size) := Lib.hid T.out.size
                have NGB : Hid (wx7.heap.size ≠ B) := Lib.hid (by have h2 := KB.out.1; omega)
                have NYG : Hid (∀ p, y = some p → p.block ≠ wx7.heap.size) := Lib.hid (fun p hp => by have h2 := HY.out.blt (by omega) p hp; omega)
                replace KB := Lib.hid (KB.out.to hb)
                replace HY := Lib.hid (HY.out.to hb)
                clear hb hw
                obtain ⟨g, hz⟩ : ∃ g, wx7.heap.size = g := ⟨_, rfl⟩
                rw [hz] at HG G0 NGB NYG ⊢
                clear hz
                replace T := Lib.hid (T.out.trans hbd.out)
                refine ⟨hbd.out, ?_⟩
                clear hbd
                refine WE_one 7 rfl (by decide) (by kernel_rfl) ?_
                unfold stepE
                go_wp2_with fail
                refine ⟨Below.refl _ _, ?_⟩
                refine WE_tail rfl (by kernel_rfl) ?_
                simp only [List.drop_succ_cons, List.drop_zero]
                have HTI := Lib.hid (TopI.of KB.out HG.out HY.out NGB.out hge (fun p hp => NYG.out p hp) (fun p hp => NYB.out p hp) T.out G0.out B0.out)
                obtain ⟨-, kb, fb⟩ := KB.out
                go_wp2_with fail
                clear kb fb
                go_meet
                case rel => exact ⟨g, B, y, e', rfl, HTI⟩
            · skip
              unfold stepE
              have hmk := HMK.out
              go_wp2_with fail
              clear hmk
              obtain ⟨wx10, hw⟩ : ∃ z, wd.alloc (.cells (madeCells #[.int .i64 0] n) 3) = z := ⟨_, rfl⟩
              rw [hw]
              have hb : Below wd.heap.size wd wx10 := by subst hw; exact bAlloc (bSelf _) _
              have HG : Hid (OutB wx10 wd.heap.size (List.replicate n 0)) := by subst hw; exact Lib.hid (OutB.new wd n)
              have hbd := Lib.hid (hb.mono T.out.size)
              have G0 : Hid (wF.heap.size ≤ wd.heap.size) := Lib.hid T.out.size
              clear hb hw
              obtain ⟨g, hz⟩ : ∃ g, wd.heap.size = g := ⟨_, rfl⟩
              rw [hz] at HG G0 ⊢
              clear hz
              replace T := Lib.hid (T.out.trans hbd.out)
              refine ⟨hbd.out, ?_⟩
              clear hbd
              refine WE_two 2 8 rfl rfl (by decide) (by decide) (by kernel_rfl) ?_ ?_
              · skip
                unfold stepE
                go_wp2_with fail
                refine (HCKD.out _ T.out).mono ?_
                rintro ee wx11 ⟨y, e', rfl, hge, hrd, hb, hfr⟩
                have HY := Lib.hid hrd
                have hbd := Lib.hid (hb.mono T.out.size)
                have NYG : Hid (∀ p, y = some p → p.block ≠ g) := Lib.hid (fun p hp => by have h1 := hfr p hp; have h2 := HG.out.1; omega)
                replace HG := Lib.hid (HG.out.to hb)
                clear hb hrd hfr
                replace T := Lib.hid (T.out.trans hbd.out)
                go_wp2_with fail
                refine ⟨hbd.out, ?_⟩
                clear hbd
                refine WE_two 7 8 rfl rfl (by decide) (by decide) (by kernel_rfl) ?_ ?_
                · skip
                  unfold stepE
                  go_wp2_with fail
                  refine ⟨Below.refl _ _, ?_⟩
                  refine WE_one 8 rfl (by decide) (by kernel_rfl) ?_
                  unfold stepE
                  go_wp2_with fail
                  obtain ⟨wx13, hw⟩ : ∃ z, wx11.alloc (.cells (#[.slice none 0 0, .slice none 0 0]) 24) = z := ⟨_, rfl⟩
                  rw [hw]
                  have hb : Below wx11.heap.size wx11 wx13 := by subst hw; exact bAlloc (bSelf _) _
                  have KB : Hid (Blk wx13 wx11.heap.size #[.slice none 0 0, .slice none 0 0]) := by subst hw; exact Lib.hid (Blk.new _ _ _)
                  have hbd := Lib.hid (hb.mono T.out.size)
                  have B0 : Hid (wF.heap.size ≤ wx11.heap.size) := Lib.hid T.out.size
                  have NGB : Hid (g ≠ wx11.heap.size) := Lib.hid (by have h2 := HG.out.1; omega)
                  have NYB : Hid (∀ p, y = some p → p.block ≠ wx11.heap.size) := Lib.hid (fun p hp => by have h2 := HY.out.blt (by omega) p hp; omega)
                  replace HG := Lib.hid (HG.out.to hb)
                  replace HY := Lib.hid (HY.out.to hb)
                  clear hb hw
                  obtain ⟨B, hz⟩ : ∃ g, wx11.heap.size = g := ⟨_, rfl⟩
                  rw [hz] at KB B0 NGB NYB ⊢
                  clear hz
                  replace T := Lib.hid (T.out.trans hbd.out)
                  refine ⟨hbd.out, ?_⟩
                  clear hbd
                  refine WE_tail rfl (by kernel_rfl) ?_
                  simp only [List.drop_succ_cons, List.drop_zero]
                  have HTI := Lib.hid (TopI.of KB.out HG.out HY.out NGB.out hge (fun p hp => NYG.out p hp) (fun p hp => NYB.out p hp) T.out G0.out B0.out)
                  obtain ⟨-, kb, fb⟩ := KB.out
                  go_wp2_with fail
                  clear kb fb
                  go_meet
                  case rel => exact ⟨g, B, y, e', rfl, HTI⟩
                · skip
                  unfold stepE
                  go_wp2_with fail
                  obtain ⟨wx14, hw⟩ : ∃ z, wx11.alloc (.cells (#[.slice none 0 0, .slice none 0 0]) 24) = z := ⟨_, rfl⟩
                  rw [hw]
                  have hb : Below wx11.heap.size wx11 wx14 := by subst hw; exact bAlloc (bSelf _) _
                  have KB : Hid (Blk wx14 wx11.heap.size #[.slice none 0 0, .slice none 0 0]) := by subst hw; exact Lib.hid (Blk.new _ _ _)
                  have hbd := Lib.hid (hb.mono T.out.size)
                  have B0 : Hid (wF.heap.size ≤ wx11.heap.size) := Lib.hid T.out.size
                  have NGB : Hid (g ≠ wx11.heap.size) := Lib.hid (by have h2 := HG.out.1; omega)
                  have NYB : Hid (∀ p, y = some p → p.block ≠ wx11.heap.size) := Lib.hid (fun p hp => by have h2 := HY.out.blt (by omega) p hp; omega)
                  replace HG := Lib.hid (HG.out.to hb)
                  replace HY := Lib.hid (HY.out.to hb)
                  clear hb hw
                  obtain ⟨B, hz⟩ : ∃ g, wx11.heap.size = g := ⟨_, rfl⟩
                  rw [hz] at KB B0 NGB NYB ⊢
                  clear hz
                  replace T := Lib.hid (T.out.trans hbd.out)
                  refine ⟨hbd.out, ?_⟩
                  clear hbd
                  refine WE_one 7 rfl (by decide) (by kernel_rfl) ?_
                  unfold stepE
                  go_wp2_with fail
                  refine ⟨Below.refl _ _, ?_⟩
                  refine WE_tail rfl (by kernel_rfl) ?_
                  simp only [List.drop_succ_cons, List.drop_zero]
                  have HTI := Lib.hid (TopI.of KB.out HG.out HY.out NGB.out hge (fun p hp => NYG.out p hp) (fun p hp => NYB.out p hp) T.out G0.out B0.out)
                  obtain ⟨-, kb, fb⟩ := KB.out
                  go_wp2_with fail
                  clear kb fb
                  go_meet
                  case rel => exact ⟨g, B, y, e', rfl, HTI⟩
              · skip
                unfold stepE
                go_wp2_with fail
                obtain ⟨wx16, hw⟩ : ∃ z, wx10.alloc (.cells (#[.slice none 0 0, .slice none 0 0]) 24) = z := ⟨_, rfl⟩
                rw [hw]
                have hb : Below wx10.heap.size wx10 wx16 := by subst hw; exact bAlloc (bSelf _) _
                have KB : Hid (Blk wx16 wx10.heap.size #[.slice none 0 0, .slice none 0 0]) := by subst hw; exact Lib.hid (Blk.new _ _ _)
                have hbd := Lib.hid (hb.mono T.out.size)
                have B0 : Hid (wF.heap.size ≤ wx10.heap.size) := Lib.hid T.out.size
                have NGB : Hid (g ≠ wx10.heap.size) := Lib.hid (by have h2 := HG.out.1; omega)
                replace HG := Lib.hid (HG.out.to hb)
                clear hb hw
                obtain ⟨B, hz⟩ : ∃ g, wx10.heap.size = g := ⟨_, rfl⟩
                rw [hz] at KB B0 NGB ⊢
                clear hz
                replace T := Lib.hid (T.out.trans hbd.out)
                refine ⟨hbd.out, ?_⟩
                clear hbd
                refine WE_one 2 rfl (by decide) (by kernel_rfl) ?_
                unfold stepE
                go_wp2_with fail
                refine (HCKD.out _ T.out).mono ?_
                rintro ee wx17 ⟨y, e', rfl, hge, hrd, hb, hfr⟩
                have HY := Lib.hid hrd
                have hbd := Lib.hid (hb.mono T.out.size)
                have NYG : Hid (∀ p, y = some p → p.block ≠ g) := Lib.hid (fun p hp => by have h1 := hfr p hp; have h2 := HG.out.1; omega)
                have NYB : Hid (∀ p, y = some p → p.block ≠ B) := Lib.hid (fun p hp => by have h1 := hfr p hp; have h2 := KB.out.1; omega)
                replace KB := Lib.hid (KB.out.to hb)
                replace HG := Lib.hid (HG.out.to hb)
                clear hb hrd hfr
                replace T := Lib.hid (T.out.trans hbd.out)
                go_wp2_with fail
                refine ⟨hbd.out, ?_⟩
                clear hbd
                refine WE_one 7 rfl (by decide) (by kernel_rfl) ?_
                unfold stepE
                go_wp2_with fail
                refine ⟨Below.refl _ _, ?_⟩
                refine WE_tail rfl (by kernel_rfl) ?_
                simp only [List.drop_succ_cons, List.drop_zero]
                have HTI := Lib.hid (TopI.of KB.out HG.out HY.out NGB.out hge (fun p hp => NYG.out p hp) (fun p hp => NYB.out p hp) T.out G0.out B0.out)
                obtain ⟨-, kb, fb⟩ := KB.out
                go_wp2_with fail
                clear kb fb
                go_meet
                case rel => exact ⟨g, B, y, e', rfl, HTI⟩
            · skip
              unfold stepE
              go_wp2_with fail
              obtain ⟨wx19, hw⟩ : ∃ z, wd.alloc (.cells (#[.slice none 0 0, .slice none 0 0]) 24) = z := ⟨_, rfl⟩
              rw [hw]
              have hb : Below wd.heap.size wd wx19 := by subst hw; exact bAlloc (bSelf _) _
              have KB : Hid (Blk wx19 wd.heap.size #[.slice none 0 0, .slice none 0 0]) := by subst hw; exact Lib.hid (Blk.new _ _ _)
              have hbd := Lib.hid (hb.mono T.out.size)
              have B0 : Hid (wF.heap.size ≤ wd.heap.size) := Lib.hid T.out.size
              clear hb hw
              obtain ⟨B, hz⟩ : ∃ g, wd.heap.size = g := ⟨_, rfl⟩
              rw [hz] at KB B0 ⊢
              clear hz
              replace T := Lib.hid (T.out.trans hbd.out)
              refine ⟨hbd.out, ?_⟩
              clear hbd
              refine WE_two 2 6 rfl rfl (by decide) (by decide) (by kernel_rfl) ?_ ?_
              · skip
                unfold stepE
                go_wp2_with fail
                refine (HCKD.out _ T.out).mono ?_
                rintro ee wx20 ⟨y, e', rfl, hge, hrd, hb, hfr⟩
                have HY := Lib.hid hrd
                have hbd := Lib.hid (hb.mono T.out.size)
                have NYB : Hid (∀ p, y = some p → p.block ≠ B) := Lib.hid (fun p hp => by have h1 := hfr p hp; have h2 := KB.out.1; omega)
                replace KB := Lib.hid (KB.out.to hb)
                clear hb hrd hfr
                replace T := Lib.hid (T.out.trans hbd.out)
                go_wp2_with fail
                refine ⟨hbd.out, ?_⟩
                clear hbd
                refine WE_one 6 rfl (by decide) (by kernel_rfl) ?_
                unfold stepE
                have hmk := HMK.out
                go_wp2_with fail
                clear hmk
                obtain ⟨wx21, hw⟩ : ∃ z, wx20.alloc (.cells (madeCells #[.int .i64 0] n) 3) = z := ⟨_, rfl⟩
                rw [hw]
                have hb : Below wx20.heap.size wx20 wx21 := by subst hw; exact bAlloc (bSelf _) _
                have HG : Hid (OutB wx21 wx20.heap.size (List.replicate n 0)) := by subst hw; exact Lib.hid (OutB.new wx20 n)
                have hbd := Lib.hid (hb.mono T.out.size)
                have G0 : Hid (wF.heap.size ≤ wx20.heap.size) := Lib.hid T.out.size
                have NGB : Hid (wx20.heap.size ≠ B) := Lib.hid (by have h2 := KB.out.1; omega)
                have NYG : Hid (∀ p, y = some p → p.block ≠ wx20.heap.size) := Lib.hid (fun p hp => by have h2 := HY.out.blt (by omega) p hp; omega)
                replace KB := Lib.hid (KB.out.to hb)
                replace HY := Lib.hid (HY.out.to hb)
                clear hb hw
                obtain ⟨g, hz⟩ : ∃ g, wx20.heap.size = g := ⟨_, rfl⟩
                rw [hz] at HG G0 NGB NYG ⊢
                clear hz
                replace T := Lib.hid (T.out.trans hbd.out)
                refine ⟨hbd.out, ?_⟩
                clear hbd
                refine WE_one 7 rfl (by decide) (by kernel_rfl) ?_
                unfold stepE
                go_wp2_with fail
                refine ⟨Below.refl _ _, ?_⟩
                refine WE_tail rfl (by kernel_rfl) ?_
                simp only [List.drop_succ_cons, List.drop_zero]
                have HTI := Lib.hid (TopI.of KB.out HG.out HY.out NGB.out hge (fun p hp => NYG.out p hp) (fun p hp => NYB.out p hp) T.out G0.out B0.out)
                obtain ⟨-, kb, fb⟩ := KB.out
                go_wp2_with fail
                clear kb fb
                go_meet
                case rel => exact ⟨g, B, y, e', rfl, HTI⟩
              · skip
                unfold stepE
                have hmk := HMK.out
                go_wp2_with fail
                clear hmk
                obtain ⟨wx23, hw⟩ : ∃ z, wx19.alloc (.cells (madeCells #[.int .i64 0] n) 3) = z := ⟨_, rfl⟩
                rw [hw]
                have hb : Below wx19.heap.size wx19 wx23 := by subst hw; exact bAlloc (bSelf _) _
                have HG : Hid (OutB wx23 wx19.heap.size (List.replicate n 0)) := by subst hw; exact Lib.hid (OutB.new wx19 n)
                have hbd := Lib.hid (hb.mono T.out.size)
                have G0 : Hid (wF.heap.size ≤ wx19.heap.size) := Lib.hid T.out.size
                have NGB : Hid (wx19.heap.size ≠ B) := Lib.hid (by have h2 := KB.out.1; omega)
                replace KB := Lib.hid (KB.out.to hb)
                clear hb hw
                obtain ⟨g, hz⟩ : ∃ g, wx19.heap.size = g := ⟨_, rfl⟩
                rw [hz] at HG G0 NGB ⊢
                clear hz
                replace T := Lib.hid (T.out.trans hbd.out)
                refine ⟨hbd.out, ?_⟩
                clear hbd
                refine WE_one 2 rfl (by decide) (by kernel_rfl) ?_
                unfold stepE
                go_wp2_with fail
                refine (HCKD.out _ T.out).mono ?_
                rintro ee wx24 ⟨y, e', rfl, hge, hrd, hb, hfr⟩
                have HY := Lib.hid hrd
                have hbd := Lib.hid (hb.mono T.out.size)
                have NYG : Hid (∀ p, y = some p → p.block ≠ g) := Lib.hid (fun p hp => by have h1 := hfr p hp; have h2 := HG.out.1; omega)
                have NYB : Hid (∀ p, y = some p → p.block ≠ B) := Lib.hid (fun p hp => by have h1 := hfr p hp; have h2 := KB.out.1; omega)
                replace KB := Lib.hid (KB.out.to hb)
                replace HG := Lib.hid (HG.out.to hb)
                clear hb hrd hfr
                replace T := Lib.hid (T.out.trans hbd.out)
                go_wp2_with fail
                refine ⟨hbd.out, ?_⟩
                clear hbd
                refine WE_one 7 rfl (by decide) (by kernel_rfl) ?_
                unfold stepE
                go_wp2_with fail
                refine ⟨Below.refl _ _, ?_⟩
                refine WE_tail rfl (by kernel_rfl) ?_
                simp only [List.drop_succ_cons, List.drop_zero]
                have HTI := Lib.hid (TopI.of KB.out HG.out HY.out NGB.out hge (fun p hp => NYG.out p hp) (fun p hp => NYB.out p hp) T.out G0.out B0.out)
                obtain ⟨-, kb, fb⟩ := KB.out
                go_wp2_with fail
                clear kb fb
                go_meet
                case rel => exact ⟨g, B, y, e', rfl, HTI⟩
          case rest =>
            obtain ⟨g, B, y, e', rfl, HT⟩ := hcut
            obtain ⟨wK, hwK⟩ : ∃ wo, wo = wc := ⟨_, rfl⟩
            subst hwK
            have hb := HT.out.be
            have hgw : w.heap.size < g := Nat.lt_of_lt_of_le K2.out.1 HT.out.g0
            have hg5 : B5 < g := Nat.lt_of_lt_of_le K5.out.1 HT.out.g0
            replace K2 := Lib.hid (K2.out.to hb)
            replace K5 := Lib.hid (K5.out.to hb)
            replace HB := Lib.hid (bThen HB.out hb)
            clear hb
            obtain ⟨mm, hmm⟩ : ∃ mm, mm + 1 = n := ⟨n - 1, by omega⟩
            have hm1 : (n : Int) - 1 = (mm : Int) := by omega
            have hm2 : decide ((mm : Int) < (n : Int)) = true := decide_eq_true (by omega)
            have hm3 : decide ((0 : Int) ≤ (mm : Int)) = true := decide_eq_true (by omega)
            have hm4 : mm < n := by omega
            have HM1 := Lib.hid hmm
            clear hmm
            have kgm : wK.cell? ⟨g, mm, none⟩ = some (.int .i64 0) := by rw [HT.out.kg.2.1 mm (by rw [List.length_replicate]; exact hm4), gi_rep]
            obtain ⟨-, -, fg'⟩ := HT.out.kg
            obtain ⟨-, kb, -⟩ := HT.out.kb
            obtain ⟨-, k5, -⟩ := K5.out
            go_upto_region 47 with (fail)
            clear kgm fg' kb k5
            have HS := Lib.hid (HT.out.set HM1.out sn)
            replace K2 := Lib.hid (K2.out.other (p := ⟨g, mm, none⟩) (by dsimp only; omega) (.int .i64 sn))
            replace K5 := Lib.hid (K5.out.other (p := ⟨g, mm, none⟩) (by dsimp only; omega) (.int .i64 sn))
            replace HB := Lib.hid (HB.out.setCell (p := ⟨g, mm, none⟩) (by dsimp only; omega) (.int .i64 sn))
            obtain ⟨wM, hwM⟩ : ∃ z, wK.setCell ⟨g, mm, none⟩ (.int .i64 sn) = z := ⟨_, rfl⟩
            rw [hwM] at HS K2 K5 HB ⊢
            clear hwM HT hgw hg5
            have hsx : 0 < sn ∧ sn ≤ 1000 := ⟨HSN.out, by omega⟩
            have hot := HTK.out sn hsx
            have hcht : (chkC ks (topF n sn)).2 = 0 := chkC_of hot (by rw [HKN.out]; exact hn0)
            have htl : (topF n sn).length = n := topF_len hn0 sn
            have HMT := Lib.hid (fun W y1 y2 e1 e2 (ge : n ≤ e2) (g1 : Reads W y1 n (ints ks)) (g2 : Reads W y2 n (ints (topF n sn))) => by
              have h := MovedOf_u ks (topF n sn) y1 y2 e1 e2 W (by rw [HKN.out]; omega) (by rw [htl]; exact ge) (by rw [HKN.out]; exact g1) (by rw [htl]; exact g2)
              rw [HKN.out, htl] at h
              exact h)
            unfold MUPost at HMT
            have hrg := HS.out.kg.reads
            rw [htl] at hrg
            have HRG := Lib.hid hrg
            clear hrg
            obtain ⟨-, kb, -⟩ := HS.out.kb
            go_wp2_with fail
            clear kb
            cases hmt : mvO ks (topF n sn) with
            | none =>
              have e1 : mvR ks (topF n sn) = ([], 8) := by unfold mvR; rw [hcht, hmt]; rfl
              rw [e1] at HMT
              dsimp only at HMT
              simp only [List.length_nil] at HMT
              clear e1 hmt
              refine (HMT.out _ _ _ _ _ (Nat.le_refl _) HS.out.hy HRG.out).mono ?_
              rintro e wN ⟨av, cv, rfl, -, hb⟩
              replace K2 := Lib.hid (K2.out.to hb)
              replace K5 := Lib.hid (K5.out.to hb)
              replace HB := Lib.hid (bThen HB.out hb)
              clear hb HMT HS HRG
              go_upto_region 48 with (fail)
              refine wp_region_tree (by kernel_rfl) (fun wd hwd => ?_)
              have T := Lib.hid hwd
              clear hwd
              refine WT_yes 0 rfl (by kernel_rfl) (fun _ _ _ _ _ h => h) (by rfl) ?_; apply Exists.intro; refine ⟨fun w1 hb1 => ?_, ?_⟩; (focus ((skip; have hb1 := Lib.hid hb1; go_simp); (try (go_bits; try go_simp)); (try (rw [if_pos (by omega)]; try go_simp)); (first | done | (fail) | (with_reducible rfl) | exact rfl)))
              simp only [Act.put, List.setIfInBounds_toArray, List.set_cons_zero, List.set_cons_succ]
              refine WT_yes 1 rfl (by kernel_rfl) (fun _ _ _ _ _ h => h) (by rfl) ?_; apply Exists.intro; refine ⟨fun w1 hb1 => ?_, ?_⟩; (focus ((skip; have hb1 := Lib.hid hb1; go_simp); (try (go_bits; try go_simp)); (try (rw [if_pos (by omega)]; try go_simp)); (first | done | (fail) | (with_reducible rfl) | exact rfl)))
              simp only [Act.put, List.setIfInBounds_toArray, List.set_cons_zero, List.set_cons_succ]
              refine WT_yes 2 rfl (by kernel_rfl) (fun _ _ _ _ _ h => h) (by rfl) ?_; apply Exists.intro; refine ⟨fun w1 hb1 => ?_, ?_⟩; (focus ((skip; have hb1 := Lib.hid hb1; go_simp); (try (go_bits; try go_simp)); (try (rw [if_pos (by omega)]; try go_simp)); (first | done | (fail) | (with_reducible rfl) | exact rfl)))
              simp only [Act.put, List.setIfInBounds_toArray, List.set_cons_zero, List.set_cons_succ]
              refine WT_no 3 rfl (by kernel_rfl) (fun _ _ _ _ _ h => h) (by rfl) ?_
              simp only [Act.put, List.setIfInBounds_toArray, List.set_cons_zero, List.set_cons_succ]
              refine WT_no 4 rfl (by kernel_rfl) (fun _ _ _ _ _ h => h) (by rfl) ?_
              simp only [Act.put, List.setIfInBounds_toArray, List.set_cons_zero, List.set_cons_succ]
              refine WT_no 5 rfl (by kernel_rfl) (fun _ _ _ _ _ h => h) (by rfl) ?_
              simp only [Act.put, List.setIfInBounds_toArray, List.set_cons_zero, List.set_cons_succ]
              refine WT_no 6 rfl (by kernel_rfl) (fun _ _ _ _ _ h => h) (by rfl) ?_
              simp only [Act.put, List.setIfInBounds_toArray, List.set_cons_zero, List.set_cons_succ]
              refine WT_no 7 rfl (by kernel_rfl) (fun _ _ _ _ _ h => h) (by rfl) ?_
              simp only [Act.put, List.setIfInBounds_toArray, List.set_cons_zero, List.set_cons_succ]
              refine WT_no 8 rfl (by kernel_rfl) (fun _ _ _ _ _ h => h) (by rfl) ?_
              simp only [Act.put, List.setIfInBounds_toArray, List.set_cons_zero, List.set_cons_succ]
              refine WT_no 9 rfl (by kernel_rfl) (fun _ _ _ _ _ h => h) (by rfl) ?_
              simp only [Act.put, List.setIfInBounds_toArray, List.set_cons_zero, List.set_cons_succ]
              refine WT_no 10 rfl (by kernel_rfl) (fun _ _ _ _ _ h => h) (by rfl) ?_
              simp only [Act.put, List.setIfInBounds_toArray, List.set_cons_zero, List.set_cons_succ]
              refine WT_no 11 rfl (by kernel_rfl) (fun _ _ _ _ _ h => h) (by rfl) ?_
              simp only [Act.put, List.setIfInBounds_toArray, List.set_cons_zero, List.set_cons_succ]
              refine WT_no 12 rfl (by kernel_rfl) (fun _ _ _ _ _ h => h) (by rfl) ?_
              simp only [Act.put, List.setIfInBounds_toArray, List.set_cons_zero, List.set_cons_succ]
              refine WT_no 13 rfl (by kernel_rfl) (fun _ _ _ _ _ h => h) (by rfl) ?_
              simp only [Act.put, List.setIfInBounds_toArray, List.set_cons_zero, List.set_cons_succ]
              refine WT_no 14 rfl (by kernel_rfl) (fun _ _ _ _ _ h => h) (by rfl) ?_
              simp only [Act.put, List.setIfInBounds_toArray, List.set_cons_zero, List.set_cons_succ]
              refine WT_no 15 rfl (by kernel_rfl) (fun _ _ _ _ _ h => h) (by rfl) ?_
              simp only [Act.put, List.setIfInBounds_toArray, List.set_cons_zero, List.set_cons_succ]
              refine WT_no 16 rfl (by kernel_rfl) (fun _ _ _ _ _ h => h) (by rfl) ?_
              simp only [Act.put, List.setIfInBounds_toArray, List.set_cons_zero, List.set_cons_succ]
              refine WT_no 17 rfl (by kernel_rfl) (fun _ _ _ _ _ h => h) (by rfl) ?_
              simp only [Act.put, List.setIfInBounds_toArray, List.set_cons_zero, List.set_cons_succ]
              refine WT_no 18 rfl (by kernel_rfl) (fun _ _ _ _ _ h => h) (by rfl) ?_
              simp only [Act.put, List.setIfInBounds_toArray, List.set_cons_zero, List.set_cons_succ]
              refine WT_no 19 rfl (by kernel_rfl) (fun _ _ _ _ _ h => h) (by rfl) ?_
              simp only [Act.put, List.setIfInBounds_toArray, List.set_cons_zero, List.set_cons_succ]
              refine WT_no 20 rfl (by kernel_rfl) (fun _ _ _ _ _ h => h) (by rfl) ?_
              simp only [Act.put, List.setIfInBounds_toArray, List.set_cons_zero, List.set_cons_succ]
              refine WT_no 21 rfl (by kernel_rfl) (fun _ _ _ _ _ h => h) (by rfl) ?_
              simp only [Act.put, List.setIfInBounds_toArray, List.set_cons_zero, List.set_cons_succ]
              refine WT_no 22 rfl (by kernel_rfl) (fun _ _ _ _ _ h => h) (by rfl) ?_
              simp only [Act.put, List.setIfInBounds_toArray, List.set_cons_zero, List.set_cons_succ]
              refine WT_no 23 rfl (by kernel_rfl) (fun _ _ _ _ _ h => h) (by rfl) ?_
              simp only [Act.put, List.setIfInBounds_toArray, List.set_cons_zero, List.set_cons_succ]
              refine WT_no 24 rfl (by kernel_rfl) (fun _ _ _ _ _ h => h) (by rfl) ?_
              simp only [Act.put, List.setIfInBounds_toArray, List.set_cons_zero, List.set_cons_succ]
              refine WT_yes 25 rfl (by kernel_rfl) (fun _ _ _ _ _ h => h) (by rfl) ?_; apply Exists.intro; refine ⟨fun w1 hb1 => ?_, ?_⟩; (focus ((skip; have hb1 := Lib.hid hb1; go_simp); (try (go_bits; try go_simp)); (try (rw [if_pos (by omega)]; try go_simp)); (first | done | (fail) | (with_reducible rfl) | exact rfl)))
              simp only [Act.put, List.setIfInBounds_toArray, List.set_cons_zero, List.set_cons_succ]
              refine WT_yes 26 rfl (by kernel_rfl) (fun _ _ _ _ _ h => h) (by rfl) ?_; apply Exists.intro; refine ⟨fun w1 hb1 => ?_, ?_⟩; (focus ((skip; have hb1 := Lib.hid hb1; go_simp); (try (go_bits; try go_simp)); (try (rw [if_pos (by omega)]; try go_simp)); (first | done | (fail) | (with_reducible rfl) | exact rfl)))
              simp only [Act.put, List.setIfInBounds_toArray, List.set_cons_zero, List.set_cons_succ]
              refine WT_done (by kernel_rfl) ?_
              go_wp2_with fail
              go_ret
              exact ⟨rfl, bThen HB.out T.out⟩
            | some v =>
              have e1 : mvR ks (topF n sn) = (v, 0) := by unfold mvR; rw [hcht, hmt]; rfl
              obtain ⟨hv1, hv2⟩ := HTL.out v hsx.2 hmt
              rw [e1] at HMT
              dsimp only at HMT
              rw [hv1] at HMT
              rw [show n - 1 = mm by have := HM1.out; omega] at hv2
              clear e1 hmt
              refine (HMT.out _ _ _ _ _ (Nat.le_refl _) HS.out.hy HRG.out).mono ?_
              rintro e wN ⟨av, cv, rfl, hrv, hb⟩
              obtain ⟨bv, ov, rfl, hbv, hcv⟩ := hrv.at (k := mm * 2) (by omega)
              have KV1 : Hid (wN.cell? ⟨bv, ov + mm * 2, none⟩ = some (.int .i64 sd)) := Lib.hid (by rw [hcv _ (by omega), fracs0, hv2])
              have KV2 : Hid (wN.cell? ⟨bv, ov + mm * 2 + 1, none⟩ = some (.int .i64 1)) := Lib.hid (by rw [Nat.add_assoc, hcv _ (by omega), fracs1, hv2])
              replace K2 := Lib.hid (K2.out.to hb)
              replace K5 := Lib.hid (K5.out.to hb)
              replace HB := Lib.hid (bThen HB.out hb)
              clear hb HMT HS HRG hrv hcv hv1 hv2
              go_upto_region 48 with (fail)
              refine wp_region_tree (by kernel_rfl) (fun wd hwd => ?_)
              have T := Lib.hid hwd
              clear hwd
              refine WT_yes 0 rfl (by kernel_rfl) (fun _ _ _ _ _ h => h) (by rfl) ?_; apply Exists.intro; refine ⟨fun w1 hb1 => ?_, ?_⟩; (focus ((skip; have hb1 := Lib.hid hb1; go_simp); (try (go_bits; try go_simp)); (try (rw [if_pos (by omega)]; try go_simp)); (first | done | (fail) | (with_reducible rfl) | exact rfl)))
              simp only [Act.put, List.setIfInBounds_toArray, List.set_cons_zero, List.set_cons_succ]
              refine WT_yes 1 rfl (by kernel_rfl) (fun _ _ _ _ _ h => h) (by rfl) ?_; apply Exists.intro; refine ⟨fun w1 hb1 => ?_, ?_⟩; (focus ((skip; have hb1 := Lib.hid hb1; go_simp); (try (go_bits; try go_simp)); (try (rw [if_pos (by omega)]; try go_simp)); (first | done | (fail) | (with_reducible rfl) | exact rfl)))
              simp only [Act.put, List.setIfInBounds_toArray, List.set_cons_zero, List.set_cons_succ]
              refine WT_yes 2 rfl (by kernel_rfl) (fun _ _ _ _ _ h => h) (by rfl) ?_; apply Exists.intro; refine ⟨fun w1 hb1 => ?_, ?_⟩; (focus ((skip; have hb1 := Lib.hid hb1; go_simp); (try (go_bits; try go_simp)); (try (rw [if_pos (by omega)]; try go_simp)); (first | done | (fail) | (with_reducible rfl) | exact rfl)))
              simp only [Act.put, List.setIfInBounds_toArray, List.set_cons_zero, List.set_cons_succ]
              refine WT_yes 3 rfl (by kernel_rfl) (fun _ _ _ _ _ h => h) (by rfl) ?_; apply Exists.intro; refine ⟨fun w1 hb1 => ?_, ?_⟩; (focus ((skip; have hb1 := Lib.hid hb1; go_simp); (try (go_bits; try go_simp)); (try (rw [if_pos (by omega)]; try go_simp)); (first | done | (fail) | (with_reducible rfl) | exact rfl)))
              simp only [Act.put, List.setIfInBounds_toArray, List.set_cons_zero, List.set_cons_succ]
              refine WT_yes 4 rfl (by kernel_rfl) (fun _ _ _ _ _ h => h) (by rfl) ?_; apply Exists.intro; refine ⟨fun w1 hb1 => ?_, ?_⟩; (focus ((skip; have hb1 := Lib.hid hb1; go_simp); (try (go_bits; try go_simp)); (try (rw [if_pos (by omega)]; try go_simp)); (first | done | (fail) | (with_reducible rfl) | exact rfl)))
              simp only [Act.put, List.setIfInBounds_toArray, List.set_cons_zero, List.set_cons_succ]
              refine WT_yes 5 rfl (by kernel_rfl) (fun _ _ _ _ _ h => h) (by rfl) ?_; apply Exists.intro; refine ⟨fun w1 hb1 => ?_, ?_⟩; (focus ((skip; have hb1 := Lib.hid hb1; go_simp); (try (go_bits; try go_simp)); (try (rw [if_pos (by omega)]; try go_simp)); (first | done | (fail) | (with_reducible rfl) | exact rfl)))
              simp only [Act.put, List.setIfInBounds_toArray, List.set_cons_zero, List.set_cons_succ]
              refine WT_yes 6 rfl (by kernel_rfl) (fun _ _ _ _ _ h => h) (by rfl) ?_; apply Exists.intro; refine ⟨fun w1 hb1 => ?_, ?_⟩; (focus ((skip; have hb1 := Lib.hid hb1; go_simp); (try (go_bits; try go_simp)); (try (rw [if_pos (by omega)]; try go_simp)); (first | done | (fail) | (with_reducible rfl) | exact rfl)))
              simp only [Act.put, List.setIfInBounds_toArray, List.set_cons_zero, List.set_cons_succ]
              refine WT_yes 7 rfl (by kernel_rfl) (fun _ _ _ _ _ h => h) (by rfl) ?_; apply Exists.intro; refine ⟨fun w1 hb1 => ?_, ?_⟩; (focus ((skip; have hb1 := Lib.hid hb1; go_simp); (try (go_bits; try go_simp)); (try (rw [if_pos (by omega)]; try go_simp)); (first | done | (fail) | (with_reducible rfl) | exact rfl)))
              simp only [Act.put, List.setIfInBounds_toArray, List.set_cons_zero, List.set_cons_succ]
              refine WT_yes 8 rfl (by kernel_rfl) (fun _ _ _ _ _ h => h) (by rfl) ?_; apply Exists.intro; refine ⟨fun w1 hb1 => ?_, ?_⟩; (focus ((skip; have hb1 := Lib.hid hb1; go_simp); (try (go_bits; try go_simp)); (try (rw [if_pos (by omega)]; try go_simp)); (first | done | (fail) | (with_reducible rfl) | exact rfl)))
              simp only [Act.put, List.setIfInBounds_toArray, List.set_cons_zero, List.set_cons_succ]
              refine WT_yes 9 rfl (by kernel_rfl) (fun _ _ _ _ _ h => h) (by rfl) ?_; apply Exists.intro; refine ⟨fun w1 hb1 => ?_, ?_⟩; (focus (((obtain ⟨-, k2, -⟩ := K2.out.to (T.out.trans hb1)); have hb1 := Lib.hid hb1; go_simp); (try (go_bits; try go_simp)); (try (rw [if_pos (by omega)]; try go_simp)); (first | done | (fail) | (with_reducible rfl) | exact rfl)))
              simp only [Act.put, List.setIfInBounds_toArray, List.set_cons_zero, List.set_cons_succ]
              refine WT_yes 10 rfl (by kernel_rfl) (fun _ _ _ _ _ h => h) (by rfl) ?_; apply Exists.intro; refine ⟨fun w1 hb1 => ?_, ?_⟩; (focus ((skip; have hb1 := Lib.hid hb1; go_simp); (try (go_bits; try go_simp)); (try (rw [if_pos (by omega)]; try go_simp)); (first | done | (fail) | (with_reducible rfl) | exact rfl)))
              simp only [Act.put, List.setIfInBounds_toArray, List.set_cons_zero, List.set_cons_succ]
              refine WT_yes 11 rfl (by kernel_rfl) (fun _ _ _ _ _ h => h) (by rfl) ?_; apply Exists.intro; refine ⟨fun w1 hb1 => ?_, ?_⟩; (focus ((skip; have hb1 := Lib.hid hb1; go_simp); (try (go_bits; try go_simp)); (try (rw [if_pos (by omega)]; try go_simp)); (first | done | (fail) | (with_reducible rfl) | exact rfl)))
              simp only [Act.put, List.setIfInBounds_toArray, List.set_cons_zero, List.set_cons_succ]
              refine WT_yes 12 rfl (by kernel_rfl) (fun _ _ _ _ _ h => h) (by rfl) ?_; apply Exists.intro; refine ⟨fun w1 hb1 => ?_, ?_⟩; (focus ((skip; have hb1 := Lib.hid hb1; go_simp); (try (go_bits; try go_simp)); (try (rw [if_pos (by omega)]; try go_simp)); (first | done | (fail) | (with_reducible rfl) | exact rfl)))
              simp only [Act.put, List.setIfInBounds_toArray, List.set_cons_zero, List.set_cons_succ]
              refine WT_yes 13 rfl (by kernel_rfl) (fun _ _ _ _ _ h => h) (by rfl) ?_; apply Exists.intro; refine ⟨fun w1 hb1 => ?_, ?_⟩; (focus ((skip; have hb1 := Lib.hid hb1; go_simp); (try (go_bits; try go_simp)); (try (rw [if_pos (by omega)]; try go_simp)); (first | done | (fail) | (with_reducible rfl) | exact rfl)))
              simp only [Act.put, List.setIfInBounds_toArray, List.set_cons_zero, List.set_cons_succ]
              refine WT_yes 14 rfl (by kernel_rfl) (fun _ _ _ _ _ h => h) (by rfl) ?_; apply Exists.intro; refine ⟨fun w1 hb1 => ?_, ?_⟩; (focus ((skip; have hb1 := Lib.hid hb1; go_simp); (try (go_bits; try go_simp)); (try (rw [if_pos (by omega)]; try go_simp)); (first | done | (fail) | (with_reducible rfl) | exact rfl)))
              simp only [Act.put, List.setIfInBounds_toArray, List.set_cons_zero, List.set_cons_succ]
              refine WT_yes 15 rfl (by kernel_rfl) (fun _ _ _ _ _ h => h) (by rfl) ?_; apply Exists.intro; refine ⟨fun w1 hb1 => ?_, ?_⟩; (focus ((skip; have hb1 := Lib.hid hb1; go_simp); (try (go_bits; try go_simp)); (try (rw [if_pos (by omega)]; try go_simp)); (first | done | (fail) | (with_reducible rfl) | exact rfl)))
              simp only [Act.put, List.setIfInBounds_toArray, List.set_cons_zero, List.set_cons_succ]
              refine WT_yes 16 rfl (by kernel_rfl) (fun _ _ _ _ _ h => h) (by rfl) ?_; apply Exists.intro; refine ⟨fun w1 hb1 => ?_, ?_⟩; (focus ((skip; have hb1 := Lib.hid hb1; go_simp); (try (go_bits; try go_simp)); (try (rw [if_pos (by omega)]; try go_simp)); (first | done | (fail) | (with_reducible rfl) | exact rfl)))
              simp only [Act.put, List.setIfInBounds_toArray, List.set_cons_zero, List.set_cons_succ]
              refine WT_yes 17 rfl (by kernel_rfl) (fun _ _ _ _ _ h => h) (by rfl) ?_; apply Exists.intro; refine ⟨fun w1 hb1 => ?_, ?_⟩; (focus ((skip; have hb1 := Lib.hid hb1; go_simp); (try (go_bits; try go_simp)); (try (rw [if_pos (by omega)]; try go_simp)); (first | done | (fail) | (with_reducible rfl) | exact rfl)))
              simp only [Act.put, List.setIfInBounds_toArray, List.set_cons_zero, List.set_cons_succ]
              refine WT_yes 18 rfl (by kernel_rfl) (fun _ _ _ _ _ h => h) (by rfl) ?_; apply Exists.intro; refine ⟨fun w1 hb1 => ?_, ?_⟩; (focus ((skip; have hb1 := Lib.hid hb1; go_simp); (try (go_bits; try go_simp)); (try (rw [if_pos (by omega)]; try go_simp)); (first | done | (fail) | (with_reducible rfl) | exact rfl)))
              simp only [Act.put, List.setIfInBounds_toArray, List.set_cons_zero, List.set_cons_succ]
              refine WT_yes 19 rfl (by kernel_rfl) (fun _ _ _ _ _ h => h) (by rfl) ?_; apply Exists.intro; refine ⟨fun w1 hb1 => ?_, ?_⟩; (focus (((have kv1 := ((T.out.trans hb1).cell (p := ⟨bv, ov + mm * 2, none⟩) hbv).trans KV1.out; have kv2 := ((T.out.trans hb1).cell (p := ⟨bv, ov + mm * 2 + 1, none⟩) hbv).trans KV2.out); have hb1 := Lib.hid hb1; go_simp); (try (go_bits; try go_simp)); (try (rw [if_pos (by omega)]; try go_simp)); (first | done | (fail) | (with_reducible rfl) | exact rfl)))
              simp only [Act.put, List.setIfInBounds_toArray, List.set_cons_zero, List.set_cons_succ]
              refine WT_yes 20 rfl (by kernel_rfl) (fun _ _ _ _ _ h => h) (by rfl) ?_; apply Exists.intro; refine ⟨fun w1 hb1 => ?_, ?_⟩; (focus ((skip; have hb1 := Lib.hid hb1; go_simp); (try (go_bits; try go_simp)); (try (rw [if_pos (by omega)]; try go_simp)); (first | done | (fail) | (with_reducible rfl) | exact rfl)))
              simp only [Act.put, List.setIfInBounds_toArray, List.set_cons_zero, List.set_cons_succ]
              refine WT_yes 21 rfl (by kernel_rfl) (fun _ _ _ _ _ h => h) (by rfl) ?_; apply Exists.intro; refine ⟨fun w1 hb1 => ?_, ?_⟩; (focus (((obtain ⟨-, k5, -⟩ := K5.out.to (T.out.trans hb1)); have hb1 := Lib.hid hb1; go_simp); (try (go_bits; try go_simp)); (try (rw [if_pos (by omega)]; try go_simp)); (first | done | (fail) | (with_reducible rfl) | exact rfl)))
              simp only [Act.put, List.setIfInBounds_toArray, List.set_cons_zero, List.set_cons_succ]
              refine WT_one 22 rfl (by kernel_rfl) ?_
              unfold stepT
              go_wp2_with fail
              refine (Whole_any sd _).mono ?_
              rintro e wQ ⟨rfl, hb⟩
              have hbd := Lib.hid (hb.mono T.out.size)
              replace T := Lib.hid (T.out.trans hbd.out)
              clear hb
              go_wp2_with fail
              refine ⟨hbd.out, ?_⟩
              clear hbd
              refine WT_yes 23 rfl (by kernel_rfl) (fun _ _ _ _ _ h => h) (by rfl) ?_; apply Exists.intro; refine ⟨fun w1 hb1 => ?_, ?_⟩; (focus ((skip; have hb1 := Lib.hid hb1; go_simp); (try (go_bits; try go_simp)); (try (rw [if_pos (by omega)]; try go_simp)); (first | done | (fail) | (with_reducible rfl) | exact rfl)))
              simp only [Act.put, List.setIfInBounds_toArray, List.set_cons_zero, List.set_cons_succ]
              refine WT_yes 24 rfl (by kernel_rfl) (fun _ _ _ _ _ h => h) (by rfl) ?_; apply Exists.intro; refine ⟨fun w1 hb1 => ?_, ?_⟩; (focus ((skip; have hb1 := Lib.hid hb1; go_simp); (try (go_bits; try go_simp)); (try (rw [if_pos (by omega)]; try go_simp)); (first | done | (fail) | (with_reducible rfl) | exact rfl)))
              simp only [Act.put, List.setIfInBounds_toArray, List.set_cons_zero, List.set_cons_succ]
              refine WT_yes 25 rfl (by kernel_rfl) (fun _ _ _ _ _ h => h) (by rfl) ?_; apply Exists.intro; refine ⟨fun w1 hb1 => ?_, ?_⟩; (focus ((skip; have hb1 := Lib.hid hb1; go_simp); (try (go_bits; try go_simp)); (try (rw [if_pos (by omega)]; try go_simp)); (first | done | (fail) | (with_reducible rfl) | exact rfl)))
              simp only [Act.put, List.setIfInBounds_toArray, List.set_cons_zero, List.set_cons_succ]
              refine WT_yes 26 rfl (by kernel_rfl) (fun _ _ _ _ _ h => h) (by rfl) ?_; apply Exists.intro; refine ⟨fun w1 hb1 => ?_, ?_⟩; (focus ((skip; have hb1 := Lib.hid hb1; go_simp); (try (go_bits; try go_simp)); (try (rw [if_pos (by omega)]; try go_simp)); (first | done | (fail) | (with_reducible rfl) | exact rfl)))
              simp only [Act.put, List.setIfInBounds_toArray, List.set_cons_zero, List.set_cons_succ]
              refine WT_done (by kernel_rfl) ?_
              go_wp2_with fail
              go_ret
              exact ⟨rfl, bThen HB.out T.out⟩

end Go.Proofs.Ytmofgejoogikfaa

