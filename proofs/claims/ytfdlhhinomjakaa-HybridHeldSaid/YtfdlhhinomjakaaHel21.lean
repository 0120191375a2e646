/-
  Texts of this claim, in their build order: E4 E5 E6.
-/
import Derived.Test.YtfdlhhinomjakaaHel20
import Derived.Test.YtfdlhhinomjakaaHel0

namespace Go.Proofs.Ytfdlhhinomjakaa
section
open Go.RowKit

theorem fracs0 (l : List (Int × Int)) (i : Nat) : fracs l (i * 2) = .int .i64 (fg l i).1 := by
  unfold fracs; rw [if_pos (by omega), show i * 2 / 2 = i by omega]
theorem fracs1 (l : List (Int × Int)) (i : Nat) : fracs l (i * 2 + 1) = .int .i64 (fg l i).2 := by
  unfold fracs; rw [if_neg (by omega), show (i * 2 + 1) / 2 = i by omega]
theorem fg_ext {l m : List (Int × Int)} (h : l.length = m.length) (hg : ∀ i, i < l.length → fg l i = fg m i) : l = m := by
  apply List.ext_getElem h
  intro i h1 h2
  have := hg i h1
  unfold fg at this
  simpa [h1, h2] using this

set_option maxHeartbeats 400000 in
set_option maxRecDepth 100000 in
theorem Fracs_any (zs ys : List (Int × Int)) (a b : Option Addr) (ca cb : Nat) (w : World) (hlz : zs.length ≤ maxLen) (hra : Reads w a (zs.length * 2) (fracs zs)) (hrb : Reads w b (ys.length * 2) (fracs ys)) :
    Calls Try.prog 27 #[.slice a zs.length ca, .slice b ys.length cb] w fun e w' => e = .returned (.bool (decide (zs = ys))) ∧ Below w.heap.size w w' := by
  unfold maxLen at hlz
  have HA := zH hra
  have HB := zH hrb
  clear hra hrb
  by_cases hl : zs.length = ys.length
  · have HL := zH hl
    have hl1 : zs.length ≤ ys.length := by omega
    have hl2 : ys.length ≤ zs.length := by omega
    clear hl
    go_enter Try.func27, Try.ntmps27
    go_wp2_with fail
    go_loopw [5] (fun i wr => ∃ k : Nat, k ≤ zs.length ∧ i = .int .i64 k ∧ Hid (∀ j, j < k → fg zs j = fg ys j) ∧ Hid (Below w.heap.size w wr)) (fun i _ => zs.length - (intOf i).toNat)
    case atStart => exact ⟨0, Nat.zero_le _, rfl, zH (by intro j h; omega), zH (bSelf w)⟩
    case round =>
      obtain ⟨k, hk, rfl, hp, hB⟩ := hrel
      by_cases hlt : k < zs.length
      · have hlt2 : k < ys.length := by omega
        obtain ⟨ba, oa, rfl, hba, hca⟩ := (HA.out.to hB.out).at (k := k * 2) (by omega)
        obtain ⟨bb, ob, rfl, hbb, hcb⟩ := (HB.out.to hB.out).at (k := k * 2) (by omega)
        obtain ⟨n1, d1, hz⟩ : ∃ n1 d1, fg zs k = (n1, d1) := ⟨_, _, rfl⟩
        obtain ⟨n2, d2, hy⟩ : ∃ n2 d2, fg ys k = (n2, d2) := ⟨_, _, rfl⟩
        have h1 : Hid (wr.cell? ⟨ba, oa + k * 2, none⟩ = some (.int .i64 n1)) := zH (by rw [hca _ (by omega), fracs0, hz])
        have h2 : Hid (wr.cell? ⟨ba, oa + k * 2 + 1, none⟩ = some (.int .i64 d1)) := zH (by rw [Nat.add_assoc, hca _ (by omega), fracs1, hz])
        have h3 : Hid (wr.cell? ⟨bb, ob + k * 2, none⟩ = some (.int .i64 n2)) := zH (by rw [hcb _ (by omega), fracs0, hy])
        have h4 : Hid (wr.cell? ⟨bb, ob + k * 2 + 1, none⟩ = some (.int .i64 d2)) := zH (by rw [Nat.add_assoc, hcb _ (by omega), fracs1, hy])
        clear hca hcb
        have HZ := zH hz
        have HY := zH hy
        clear hz hy
        by_cases he : (n1, d1) = (n2, d2)
        · cases he
          go_wp2_with fail
          refine wp_region_quiet_all (fun w' => Below (World.heap wr).size (wr) w') (by kernel_rfl) (by kernel_rfl) (Below.refl _ _).drew ?_
          refine WQ.out ?_
          repeat (first | (refine WQ_no (by rfl) ?_; (simp only [Act.put, zzT, zzO, zzS])) | (refine WQ_yes (by rfl) ?_; apply Exists.intro; refine ⟨fun w1 hb1 => ?_, ?_⟩; (focus (((have k1 := (hb1.cell (p := ⟨ba, oa + k * 2, none⟩) hba).trans h1.out; have k2 := (hb1.cell (p := ⟨ba, oa + k * 2 + 1, none⟩) hba).trans h2.out; have k3 := (hb1.cell (p := ⟨bb, ob + k * 2, none⟩) hbb).trans h3.out; have k4 := (hb1.cell (p := ⟨bb, ob + k * 2 + 1, none⟩) hbb).trans h4.out); have hb1 := zH hb1; go_simp); (try (go_bits; try go_simp)); (try (rw [if_pos (by omega)]; try go_simp)); (first | done | (with_reducible rfl) | exact rfl))); (simp only [Act.put, zzT, zzO, zzS])))
          refine WQ_nil ?_
          intro w1 hb1
          go_wp2_with fail
          go_roundw
          case rel =>
            refine ⟨k + 1, by omega, by go_num, zH (fun j hj => ?_), zH (bThen hB.out hb1)⟩
            by_cases h : j = k
            · subst h; rw [HZ.out, HY.out]
            · exact hp.out j (by omega)
          case measure => simp [intOf]; omega
        · have HE := zH he
          have hcs : (¬ n1 = n2) ∨ (n1 = n2 ∧ ¬ d1 = d2) := by
            by_cases h : n1 = n2
            · exact .inr ⟨h, fun h2 => he (by rw [h, h2])⟩
            · exact .inl h
          clear he
          rcases hcs with hn | ⟨rfl, hn⟩
          all_goals
            go_wp2_with fail
            refine wp_region_quiet_all (fun w' => Below (World.heap wr).size (wr) w') (by kernel_rfl) (by kernel_rfl) (Below.refl _ _).drew ?_
            refine WQ.out ?_
            repeat (first | (refine WQ_no (by rfl) ?_; (simp only [Act.put, zzT, zzO, zzS])) | (refine WQ_yes (by rfl) ?_; apply Exists.intro; refine ⟨fun w1 hb1 => ?_, ?_⟩; (focus (((have k1 := (hb1.cell (p := ⟨ba, oa + k * 2, none⟩) hba).trans h1.out; have k2 := (hb1.cell (p := ⟨ba, oa + k * 2 + 1, none⟩) hba).trans h2.out; have k3 := (hb1.cell (p := ⟨bb, ob + k * 2, none⟩) hbb).trans h3.out; have k4 := (hb1.cell (p := ⟨bb, ob + k * 2 + 1, none⟩) hbb).trans h4.out); have hb1 := zH hb1; go_simp); (try (go_bits; try go_simp)); (try (rw [if_pos (by omega)]; try go_simp)); (first | done | (with_reducible rfl) | exact rfl))); (simp only [Act.put, zzT, zzO, zzS])))
            refine WQ_nil ?_
            intro w1 hb1
            go_wp2_with fail
            go_ret
            exact ⟨ret_bool (by have : ¬ zs = ys := fun h => HE.out (by rw [← HZ.out, ← HY.out, h]); simp [this]), bThen hB.out hb1⟩
      · have : k = zs.length := by omega
        subst this
        go_wp2_with fail
        go_ret
        exact ⟨ret_bool (by have : zs = ys := fg_ext HL.out hp.out; simp [this]), hB.out⟩
  · have HL := zH hl
    have h1 : ((zs.length : Int) != ys.length) = true := by simp; omega
    clear hl
    go_enter Try.func27, Try.ntmps27
    go_wp2_with fail
    go_ret
    exact ⟨ret_bool (by have : ¬ zs = ys := fun h => HL.out (by rw [h]); simp [this]), bSelf w⟩
end
section
set_option maxRecDepth 100000
open Go.RowKit

def exT : HT := ⟨4, 1, 2, 2, 1, false, 3, 0, 8⟩
def exM : List Msg := [(0, 0, 10), (1, 0, 14), (0, 1, 20), (1, 1, 29), (0, 2, 30)]

theorem exRun0 : runE exT [8, 0, 0] = 0 := by kernel_rfl
theorem exRun : runL exT [8, 0, 0] = [0, 2, 2, 0] := by decide
theorem exErr0 : errE exT [8, 0, 0] 1 = 0 := by kernel_rfl
theorem exErrLo : sumE (stepErr exT) (stepsL exT [0, 0, 0, 0] [8, 0, 0]) - sumE (stepWide 1) (stepsL exT [0, 0, 0, 0] [8, 0, 0]) = -14 := by decide
theorem exErrHi : sumE (stepErr exT) (stepsL exT [0, 0, 0, 0] [8, 0, 0]) + sumE (stepWide 1) (stepsL exT [0, 0, 0, 0] [8, 0, 0]) = -2 := by decide
theorem exOpen : openE exM 5 40 = 0 := by decide
theorem exLate : lateL exM 5 40 = [1, 2] := by decide
theorem exChk : (chkC [2, 4] [6, 4]).2 = 0 := by decide
theorem exMov : movO [2, 4] [6, 4] 2 0 (0, 1) = some [(5, 1), (6, 1)] := by decide

theorem Test_any (w : World) : Calls Try.prog 21 #[] w fun e w' => e = .returned (.agg exT.cells) ∧ Below w.heap.size w w' := by
  go_enter Try.func21, Try.ntmps21
  go_wp2_with fail
  refine bodyPost_ret (v := .agg exT.cells) ?_ rfl ⟨rfl, bAlloc (bSelf w) _⟩
  simp [results, Try.results21, go_sem, exT]

theorem Messages_any (w : World) : Calls Try.prog 24 #[] w fun e w' => e = .returned (.slice (some ⟨w.heap.size, 0, none⟩) 5 5) ∧ Reads w' (some ⟨w.heap.size, 0, none⟩) (5 * 3) (msgs exM) ∧ Below w.heap.size w w' := by
  go_enter Try.func24, Try.ntmps24
  go_wp2_with fail
  go_ret
  refine ⟨rfl, ?_, bAlloc (bSelf w) _⟩
  exact Reads.fresh w #[.int .i64 0, .int .i64 0, .int .i64 10, .int .i64 1, .int .i64 0, .int .i64 14, .int .i64 0, .int .i64 1, .int .i64 20, .int .i64 1, .int .i64 1, .int .i64 29, .int .i64 0, .int .i64 2, .int .i64 30] _ (msgs exM) _ 15 rfl (fun i hi => by
    match i, hi with
    | 0, _ => rfl
    | 1, _ => rfl
    | 2, _ => rfl
    | 3, _ => rfl
    | 4, _ => rfl
    | 5, _ => rfl
    | 6, _ => rfl
    | 7, _ => rfl
    | 8, _ => rfl
    | 9, _ => rfl
    | 10, _ => rfl
    | 11, _ => rfl
    | 12, _ => rfl
    | 13, _ => rfl
    | 14, _ => rfl
    | n + 15, h => exact absurd h (by omega))

theorem two_fresh (w : World) (x y : Int) (T : TypeId) {B : Nat} (hB : w.heap.size = B) : Reads (w.alloc (.cells #[.int .i64 x, .int .i64 y] T)) (some ⟨B, 0, none⟩) 2 (ints [x, y]) :=
  Reads.fresh w _ _ _ _ 2 hB (fun i hi => by
    match i, hi with
    | 0, _ => rfl
    | 1, _ => rfl
    | n + 2, h => exact absurd h (by omega))

theorem Chain_any (w : World) : Calls Try.prog 26 #[] w fun e w' => ∃ b1 b2, e = .returned (.agg (chV (some ⟨b1, 0, none⟩) 2 2 (some ⟨b2, 0, none⟩) 2 2)) ∧ Reads w' (some ⟨b1, 0, none⟩) 2 (ints [2, 4]) ∧ Reads w' (some ⟨b2, 0, none⟩) 2 (ints [6, 4]) ∧ Below w.heap.size w w' := by
  go_enter Try.func26, Try.ntmps26
  go_wp2_with fail
  obtain ⟨v1, hv1⟩ : ∃ v : Value, v = .slice (some ⟨w.heap.size + 1, 0, none⟩) 2 2 := ⟨_, rfl⟩
  obtain ⟨v2, hv2⟩ : ∃ v : Value, v = .slice (some ⟨w.heap.size + 1 + 1, 0, none⟩) 2 2 := ⟨_, rfl⟩
  rw [← hv1, ← hv2]
  have F := ((Blk.new w #[v1, v2] 61).alloc (.cells #[.int .i64 2, .int .i64 4] 3)).alloc (.cells #[.int .i64 6, .int .i64 4] 3)
  have F0 := F.2.1 0
  have F1 := F.2.1 1
  clear F
  refine bodyPost_ret (v := .agg #[v1, v2]) ?_ rfl ⟨w.heap.size + 1, w.heap.size + 1 + 1, by rw [hv1, hv2], (two_fresh _ _ _ _ (by simp)).alloc _, two_fresh _ _ _ _ (by simp), bAlloc (bAlloc (bAlloc (bSelf w) _) _) _⟩
  simp [results, Try.results26, go_sem, F0, F1]

theorem four_fresh (w : World) (x y z t : Int) (T : TypeId) {B : Nat} (hB : w.heap.size = B) : Reads (w.alloc (.cells #[.int .i64 x, .int .i64 y, .int .i64 z, .int .i64 t] T)) (some ⟨B, 0, none⟩) 4 (ints [x, y, z, t]) :=
  Reads.fresh w _ _ _ _ 4 hB (fun i hi => by
    match i, hi with
    | 0, _ => rfl
    | 1, _ => rfl
    | 2, _ => rfl
    | 3, _ => rfl
    | n + 4, h => exact absurd h (by omega))
theorem three_fresh (w : World) (x y z : Int) (T : TypeId) {B : Nat} (hB : w.heap.size = B) : Reads (w.alloc (.cells #[.int .i64 x, .int .i64 y, .int .i64 z] T)) (some ⟨B, 0, none⟩) 3 (ints [x, y, z]) :=
  Reads.fresh w _ _ _ _ 3 hB (fun i hi => by
    match i, hi with
    | 0, _ => rfl
    | 1, _ => rfl
    | 2, _ => rfl
    | n + 3, h => exact absurd h (by omega))
theorem twoF_fresh (w : World) (x y z t : Int) (T : TypeId) {B : Nat} (hB : w.heap.size = B) : Reads (w.alloc (.cells #[.int .i64 x, .int .i64 y, .int .i64 z, .int .i64 t] T)) (some ⟨B, 0, none⟩) 4 (fracs [(x, y), (z, t)]) :=
  Reads.fresh w _ _ _ _ 4 hB (fun i hi => by
    match i, hi with
    | 0, _ => rfl
    | 1, _ => rfl
    | 2, _ => rfl
    | 3, _ => rfl
    | n + 4, h => exact absurd h (by omega))
end
section
open Go.RowKit

set_option maxHeartbeats 1600000 in
set_option maxRecDepth 100000 in
theorem awake_any (w : World) : Calls Try.prog 4 #[] w fun e w' => e = .returned (.bool true) ∧ Below w.heap.size w w' := by
  have HRUN := zH (fun (a : Option Addr) (cap : Nat) (W : World) h => RunOf_ok exT [8, 0, 0] a cap W (by decide) h exRun0)
  have HERR := zH (fun (a : Option Addr) (cap : Nat) (W : World) h => ErrorOf_ok exT [8, 0, 0] a cap 1 W (by decide) h exErr0)
  have HLAT := zH (fun (a : Option Addr) (W : World) h => LateIn_ok exM a 5 5 40 W (by decide) (by decide) h exOpen)
  have HMOV := zH (fun (a1 a2 : Option Addr) (W : World) h1 h2 => MovedOf_ok [2, 4] [6, 4] a1 a2 2 2 W (by decide) (by decide) h1 h2 exChk)
  rw [exRun] at HRUN
  rw [exErrLo, exErrHi] at HERR
  rw [exLate, show exM.length = 5 from rfl] at HLAT
  unfold MovPost at HMOV
  simp only [List.length_cons, List.length_nil, Nat.reduceAdd, exMov] at HRUN HERR HLAT HMOV
  go_enter Try.func4, Try.ntmps4
  go_wp2_with fail
  refine (Test_any _).mono ?_
  rintro e w1 ⟨rfl, hb⟩
  have HB := zH hb
  clear hb
  go_wp2_with fail
  refine (HRUN.out _ _ _ (three_fresh _ _ _ _ _ rfl)).mono ?_
  rintro e w2 ⟨a2, c2, rfl, hr, hb⟩
  replace HB := zH (bThen (bAlloc HB.out _) hb)
  have HR := zH hr
  clear hr hb
  go_wp2_with fail
  refine (Test_any _).mono ?_
  rintro e w3 ⟨rfl, hb⟩
  replace HB := zH (bThen HB.out hb)
  replace HR := zH (HR.out.to hb)
  clear hb
  go_wp2_with fail
  refine (HERR.out _ _ _ (three_fresh _ _ _ _ _ rfl)).mono ?_
  rintro e w4 ⟨rfl, hb⟩
  replace HB := zH (bThen (bAlloc HB.out _) hb)
  replace HR := zH ((HR.out.alloc (.cells #[.int .i64 8, .int .i64 0, .int .i64 0] 3)).to hb)
  clear hb
  go_wp2_with fail
  refine (Messages_any _).mono ?_
  rintro e w5 ⟨rfl, hm, hb⟩
  replace HB := zH (bThen (bAlloc HB.out _) hb)
  replace HR := zH ((HR.out.alloc (.cells #[.int .i64 (-14), .int .i64 (-2)] 23)).to hb)
  have KW := zH ((Blk.new w4 #[.int .i64 (-14), .int .i64 (-2)] 23).to hb)
  simp only [World.size_alloc] at hm
  have HM := zH hm
  clear hb hm
  go_wp2_with fail
  refine (HLAT.out _ _ HM.out).mono ?_
  rintro e w6 ⟨a6, c6, rfl, hl, hb⟩
  replace HB := zH (bThen HB.out hb)
  replace HR := zH (HR.out.to hb)
  replace KW := zH (KW.out.to hb)
  have HL := zH hl
  clear hb hl HM
  go_wp2_with fail
  refine (Chain_any _).mono ?_
  rintro e w7 ⟨b1, b2, rfl, hk, hf, hb⟩
  replace HB := zH (bThen HB.out hb)
  replace HR := zH (HR.out.to hb)
  replace KW := zH (KW.out.to hb)
  replace HL := zH (HL.out.to hb)
  have HK := zH hk
  have HF := zH hf
  clear hb hk hf
  go_wp2_with fail
  refine (HMOV.out _ _ _ HK.out HF.out).mono ?_
  rintro e w8 ⟨a8, c8, rfl, -, hu, hb, -⟩
  replace HB := zH (bThen HB.out hb)
  replace HR := zH (HR.out.to hb)
  replace KW := zH (KW.out.to hb)
  replace HL := zH (HL.out.to hb)
  have HU := zH hu
  clear hb hu HK HF
  obtain ⟨-, kw, -⟩ := KW.out
  go_wp2_with fail
  refine (Ints_any [0, 2, 2, 0] [0, 2, 2, 0] _ _ _ _ _ (by decide) (HR.out.alloc _) (four_fresh _ _ _ _ _ _ rfl)).mono ?_
  rintro e w9 ⟨rfl, hb⟩
  replace HB := zH (bThen (bAlloc HB.out _) hb)
  replace KW := zH ((KW.out.alloc (.cells #[.int .i64 0, .int .i64 2, .int .i64 2, .int .i64 0] 3)).to hb)
  replace HL := zH ((HL.out.alloc (.cells #[.int .i64 0, .int .i64 2, .int .i64 2, .int .i64 0] 3)).to hb)
  replace HU := zH ((HU.out.alloc (.cells #[.int .i64 0, .int .i64 2, .int .i64 2, .int .i64 0] 3)).to hb)
  clear hb kw
  rw [decide_eq_true (Eq.refl _)]
  obtain ⟨-, kw, -⟩ := KW.out
  go_wp2_with fail
  refine (Ints_any [1, 2] [1, 2] _ _ _ _ _ (by decide) (HL.out.alloc _) (two_fresh _ _ _ _ rfl)).mono ?_
  rintro e wa ⟨rfl, hb⟩
  replace HB := zH (bThen (bAlloc HB.out _) hb)
  replace HU := zH ((HU.out.alloc (.cells #[.int .i64 1, .int .i64 2] 3)).to hb)
  clear hb kw
  rw [decide_eq_true (Eq.refl _)]
  go_wp2_with fail
  refine (Fracs_any [(5, 1), (6, 1)] [(5, 1), (6, 1)] _ _ _ _ _ (by decide) (HU.out.alloc _) (twoF_fresh _ _ _ _ _ _ rfl)).mono ?_
  rintro e wb ⟨rfl, hb⟩
  replace HB := zH (bThen (bAlloc HB.out _) hb)
  clear hb
  rw [decide_eq_true (Eq.refl _)]
  go_wp2_with fail
  go_ret
  exact ⟨rfl, HB.out⟩
end
end Go.Proofs.Ytfdlhhinomjakaa
