/-
  Texts of this claim, in their build order: OL3.
-/
import Derived.Test.YtjfedpblkejmkaaGreatCol40
import Derived.Test.YtjfedpblkejmkaaGreatCol41
import Derived.Test.YtjfedpblkejmkaaGreatCol42

/-
  OilColumns.
-/
namespace Go.Proofs.YtjfedpblkejmkaaGreat
open Go.RowKit
attribute [local go_sem] Oper.semAt_some

theorem sqOE_of {x y z m : Int} (h : clmE x y z = 0) : sqOE x y z m = unl (wthn m 1 10000) 2 := by
  unfold sqOE firstE
  rw [if_pos h]
  have : colB [m] = wthn m 1 10000 := by unfold colB; simp
  rw [this]
  unfold firstE
  by_cases h2 : unl (wthn m 1 10000) 2 = 0
  · rw [if_pos h2, h2]; rfl
  · rw [if_neg h2]
theorem sqO_bad {x y z m : Int} (h : clmE x y z ≠ 0) : sqOE x y z m = clmE x y z ∧ sqOA x y z m = (0, 0) := by
  have e : sqOE x y z m = clmE x y z := by unfold sqOE firstE; rw [if_neg h]
  exact ⟨e, by unfold sqOA; rw [e, if_neg h]⟩
theorem clrE_bad {x y z a b lo hi : Int} (h : clmE x y z ≠ 0) : clrE x y z a b lo hi = clmE x y z ∧ clrO x y z a b lo hi = 0 := by
  have e : clrE x y z a b lo hi = clmE x y z := by unfold clrE firstE; rw [if_neg h]
  exact ⟨e, by unfold clrO; rw [e, if_neg h]⟩
theorem clrE_of {x y z a b lo hi : Int} (h : clmE x y z = 0) : clrE x y z a b lo hi = mssE a b lo hi := by
  unfold clrE mssE
  rw [firstE, if_pos h]
  have e1 : colB [a, b] = (wthn a 1 10000 && wthn b 1 10000) := by unfold colB; simp
  have e2 : decide (a ≤ b) = !decide (b < a) := by by_cases g : a ≤ b <;> simp [g] <;> omega
  have e3 : decide (lo ≤ hi) = !decide (hi < lo) := by by_cases g : lo ≤ hi <;> simp [g] <;> omega
  rw [e1, e2, e3]

theorem smF_fr {q : Int × Int} (h : QOk q) : SmF (fr q.1 q.2) := by
  have h1 := fr_pos (n := q.1) (show 0 < q.2 from h.d0)
  have h2 := fr_bd1 (n := q.1) (m := q.2) (B := 1000000000) (by have := h.n0; have := h.n1; omega)
  have h3 := fr_bd2 (n := q.1) (m := q.2) (B := 1000000000) (by have := h.d0; have := h.d1; omega)
  exact ⟨by omega, by omega, by omega, by omega⟩

set_option maxHeartbeats 3200000 in
set_option maxRecDepth 100000 in
theorem squared_any (x y z m : Int) (w : World) (hc : clmE x y z = 0) :
    Calls Tryz.prog 18 #[.agg #[.int .i64 x, .int .i64 y, .int .i64 z], .int .i64 m, .agg #[.int .i64 (sqOA x y z m).1, .int .i64 (sqOA x y z m).2], .int .i64 (sqOE x y z m)] w fun e w' => e = .returned (.bool true) ∧ Below w.heap.size w w' := by
  have HM := Lib.hid (fun W => rMassErr_any m W)
  have hE := sqOE_of (m := m) hc
  obtain ⟨b, hb⟩ : ∃ b, wthn m 1 10000 = b := ⟨_, rfl⟩
  cases b with
  | false =>
    have hA : sqOA x y z m = (0, 0) := by unfold sqOA; rw [hE, hb]; rfl
    rw [hA, hE, hb]
    rw [hb] at HM
    clear hA hE hb hc
    go_enter Tryz.func18, Tryz.ntmps18
    go_wp2_with fail
    refine (HM.out _).mono ?_
    rintro e w' ⟨rfl, rfl⟩
    go_wp2_with fail
    go_ret
    exact ⟨rfl, bAlloc (bAlloc (bSelf w) _) _⟩
  | true =>
    have hm := wthn_iff.1 hb
    have hq := sqr_ok (clmE_ok hc) hm
    have hA : sqOA x y z m = fr (4 * x * y) (z * m) := by unfold sqOA; rw [hE, hb]; rfl
    have HS := Lib.hid (fun W => rSquare_any x y z m W (clmE_ok hc) hm)
    have HF := Lib.hid (fun W a1 a2 v => RatioFrac_any (fr (4 * x * y) (z * m)) a1 a2 v W (smF_fr hq))
    rw [hA, hE, hb]
    rw [hb] at HM
    obtain ⟨⟨p1, p2⟩, hp⟩ : ∃ q, fr (4 * x * y) (z * m) = q := ⟨_, rfl⟩
    rw [hp] at HS HF ⊢
    clear hA hE hb hc hm hq hp
    dsimp only at HF ⊢
    go_enter Tryz.func18, Tryz.ntmps18
    go_wp2_with fail
    obtain ⟨W, hW⟩ : ∃ W, (w.alloc (.cells #[.int .i64 x, .int .i64 y, .int .i64 z] 23)).alloc (.cells #[.int .i64 p1, .int .i64 p2] 28) = W := ⟨_, rfl⟩
    rw [hW]
    have K4 : Hid (Blk W w.heap.size #[.int .i64 x, .int .i64 y, .int .i64 z]) := by subst hW; exact Lib.hid ((Blk.new _ _ _).alloc _)
    have K6 : Hid (Blk W (w.heap.size + 1) #[.int .i64 p1, .int .i64 p2]) := by subst hW; exact Lib.hid (Blk.newAt _ _ _ (by simp))
    have HB : Hid (Below w.heap.size w W) := by subst hW; exact Lib.hid (bAlloc (bAlloc (bSelf w) _) _)
    clear hW
    refine (HM.out _).mono ?_
    rintro e w' ⟨rfl, rfl⟩
    obtain ⟨-, k4, -⟩ := K4.out
    go_wp2_with fail
    refine (HS.out _).mono ?_
    rintro e w1 ⟨a1, a2, v, rfl, hrr, hb, -⟩
    replace K6 := Lib.hid (K6.out.to hb)
    replace HB := Lib.hid (bThen HB.out hb)
    have HRR := Lib.hid hrr
    clear hb k4 K4 hrr
    go_wp2_with fail
    refine (HF.out _ _ _ _ HRR.out).mono ?_
    rintro e w2 ⟨rfl, hb⟩
    replace K6 := Lib.hid (K6.out.to hb)
    replace HB := Lib.hid (bThen HB.out hb)
    clear hb HRR
    have k6 := fun o1 => (K6.out.alloc o1).2.1
    go_wp2_with fail
    go_ret
    exact ⟨rfl, bAlloc HB.out _⟩

theorem colFin {x y z a b lo hi : Int} (h : clrE x y z a b lo hi = 0) : SmF (sqOA x y z a) ∧ SmF (sqOA x y z b) ∧ clrR (fr (sqrQ x y z b).1 (sqrQ x y z b).2) (fr (sqrQ x y z a).1 (sqrQ x y z a).2) lo hi = clrO x y z a b lo hi ∧
    0 ≤ cmpQ (sqOA x y z a) (sqOA x y z b) ∧ (a < b → cmpQ (sqOA x y z a) (sqOA x y z b) ≠ 0) ∧ (clrO x y z a b lo hi = 2 → insQ (sqOA x y z a) lo hi = false ∧ insQ (sqOA x y z b) lo hi = false) ∧ (clrO x y z a b lo hi = 0 → insQ (sqOA x y z a) lo hi = true ∧ insQ (sqOA x y z b) lo hi = true) ∧
    0 ≤ lo ∧ lo ≤ 1000000000 ∧ 0 ≤ hi ∧ hi ≤ 1000000000 := by
  obtain ⟨h1, h2, h3⟩ := clrE_ok h
  have qa := sqr_ok h1 (show 1 ≤ a ∧ a ≤ 10000 by omega)
  have qb := sqr_ok h1 (show 1 ≤ b ∧ b ≤ 10000 by omega)
  have hc : clmE x y z = 0 := by
    by_cases g : clmE x y z = 0
    · exact g
    · rw [(clrE_bad g).1] at h; exact absurd h g
  have ea : sqOA x y z a = fr (4 * x * y) (z * a) := by
    unfold sqOA; rw [sqOE_of hc, wthn_iff.2 (show 1 ≤ a ∧ a ≤ 10000 by omega)]; rfl
  have eb : sqOA x y z b = fr (4 * x * y) (z * b) := by
    unfold sqOA; rw [sqOE_of hc, wthn_iff.2 (show 1 ≤ b ∧ b ≤ 10000 by omega)]; rfl
  have eo : clrO x y z a b lo hi = clrA (4 * x * y, z * b) (4 * x * y, z * a) lo hi := by unfold clrO; rw [if_pos h]; rfl
  have n0 : 0 < 4 * x * y := Int.mul_pos (by omega) (by omega)
  have d0 : 0 < z * a := Int.mul_pos (by omega) (by omega)
  have e0 : 0 < z * b := Int.mul_pos (by omega) (by omega)
  have hde : z * a ≤ z * b := Int.mul_le_mul_of_nonneg_left h2.2.1 (by omega)
  obtain ⟨l1, l2, l3, l4⟩ := clr_law (bl := lo) (bh := hi) n0 d0 hde h3.1 (by omega)
  rw [ea, eb, eo]
  refine ⟨smF_fr qa, smF_fr qb, ?_, l1, fun hab => l2 (Int.mul_lt_mul_of_pos_left hab (by omega)), l3, l4, h3.1, by omega, by omega, h3.2.2⟩
  exact clr_eq (N := 4 * x * y) (D := z * b) (M := 4 * x * y) (E := z * a) lo hi e0 d0

set_option maxHeartbeats 12800000 in
set_option maxRecDepth 100000 in
theorem OilColumns_any (x y z a b lo hi : Int) (w : World) :
    Calls Tryz.prog 3 #[.agg #[.int .i64 x, .int .i64 y, .int .i64 z], .agg #[.int .i64 a, .int .i64 b], .agg #[.int .i64 lo, .int .i64 hi]] w fun e w' => e = .returned (.bool true) ∧ Below w.heap.size w w' := by
  have HAW := Lib.hid (fun W => oAwake_any W)
  have HQA := Lib.hid (fun W => SquareOf_any x y z a W)
  have HQB := Lib.hid (fun W => SquareOf_any x y z b W)
  have HCL := Lib.hid (fun W => ClearOf_any x y z a b lo hi W)
  have HCE := Lib.hid (fun W => rColumnErr_any x y z W)
  have HSA := Lib.hid (fun W (h : clmE x y z = 0) => squared_any x y z a W h)
  have HSB := Lib.hid (fun W (h : clmE x y z = 0) => squared_any x y z b W h)
  have HME := Lib.hid (fun W => rMassesErr_any a b lo hi W)
  have HBAD := Lib.hid (fun (h : clmE x y z ≠ 0) => (show (sqOE x y z a = clmE x y z ∧ sqOA x y z a = (0, 0)) ∧ (sqOE x y z b = clmE x y z ∧ sqOA x y z b = (0, 0)) ∧ clrE x y z a b lo hi = clmE x y z ∧ clrO x y z a b lo hi = 0 from ⟨sqO_bad h, sqO_bad h, clrE_bad h⟩))
  have HOK := Lib.hid (fun (h : clmE x y z = 0) => clrE_of (a := a) (b := b) (lo := lo) (hi := hi) h)
  have HER := Lib.hid (fun (h : clrE x y z a b lo hi ≠ 0) => (show clrO x y z a b lo hi = 0 from by unfold clrO; rw [if_neg h]))
  have HFIN := Lib.hid (fun (h : clrE x y z a b lo hi = 0) => colFin h)
  have HRC := Lib.hid (fun W (h : clrE x y z a b lo hi = 0) => rClear_any x y z a b lo hi W h)
  obtain ⟨⟨p1, p2⟩, hp⟩ : ∃ q, sqOA x y z a = q := ⟨_, rfl⟩
  obtain ⟨⟨q1, q2⟩, hq⟩ : ∃ q, sqOA x y z b = q := ⟨_, rfl⟩
  obtain ⟨ea, hea⟩ : ∃ q, sqOE x y z a = q := ⟨_, rfl⟩
  obtain ⟨eb, heb⟩ : ∃ q, sqOE x y z b = q := ⟨_, rfl⟩
  obtain ⟨ec, hec⟩ : ∃ q, clrE x y z a b lo hi = q := ⟨_, rfl⟩
  obtain ⟨oc, hoc⟩ : ∃ q, clrO x y z a b lo hi = q := ⟨_, rfl⟩
  obtain ⟨ce, hce⟩ : ∃ q, clmE x y z = q := ⟨_, rfl⟩
  obtain ⟨me, hme⟩ : ∃ q, mssE a b lo hi = q := ⟨_, rfl⟩
  rw [hp] at HQA HSA HBAD HFIN
  rw [hq] at HQB HSB HBAD HFIN
  rw [hea] at HQA HSA HBAD
  rw [heb] at HQB HSB HBAD
  rw [hec] at HCL HBAD HOK HER HFIN HRC
  rw [hoc] at HCL HBAD HER HFIN
  rw [hce] at HCE HSA HSB HBAD HOK
  rw [hme] at HME HOK
  clear hp hq hea heb hec hoc hce hme
  dsimp only at HQA HQB HSA HSB HFIN
  go_enter Tryz.func3, Tryz.ntmps3
  go_wp2_with fail
  obtain ⟨W, hW⟩ : ∃ W, ((w.alloc (.cells #[.int .i64 x, .int .i64 y, .int .i64 z] 23)).alloc (.cells #[.int .i64 a, .int .i64 b] 25)).alloc (.cells #[.int .i64 lo, .int .i64 hi] 25) = W := ⟨_, rfl⟩
  rw [hW]
  have K3 : Hid (Blk W w.heap.size #[.int .i64 x, .int .i64 y, .int .i64 z]) := by subst hW; exact Lib.hid (((Blk.new _ _ _).alloc _).alloc _)
  have K4 : Hid (Blk W (w.heap.size + 1) #[.int .i64 a, .int .i64 b]) := by subst hW; exact Lib.hid ((Blk.newAt _ _ _ (by simp)).alloc _)
  have K5 : Hid (Blk W (w.heap.size + 1 + 1) #[.int .i64 lo, .int .i64 hi]) := by subst hW; exact Lib.hid (Blk.newAt _ _ _ (by simp))
  have HB : Hid (Below w.heap.size w W) := by subst hW; exact Lib.hid (bAlloc (bAlloc (bAlloc (bSelf w) _) _) _)
  clear hW
  refine (HAW.out _).mono ?_
  rintro e w1 ⟨rfl, hb⟩
  replace K3 := Lib.hid (K3.out.to hb)
  replace K4 := Lib.hid (K4.out.to hb)
  replace K5 := Lib.hid (K5.out.to hb)
  replace HB := Lib.hid (bThen HB.out hb)
  clear hb HAW
  obtain ⟨-, k3, -⟩ := K3.out
  obtain ⟨-, k4, -⟩ := K4.out
  go_wp2_with fail
  refine (HQA.out _).mono ?_
  rintro e w2 ⟨rfl, hb⟩
  replace K3 := Lib.hid (K3.out.to hb)
  replace K4 := Lib.hid (K4.out.to hb)
  replace K5 := Lib.hid (K5.out.to hb)
  replace HB := Lib.hid (bThen HB.out hb)
  clear hb HQA k3 k4
  have k3 := fun o1 => (K3.out.alloc o1).2.1
  have k4 := fun o1 => (K4.out.alloc o1).2.1
  go_wp2_with fail
  clear k3 k4
  obtain ⟨W2, hW2⟩ : ∃ W2, w2.alloc (.cells #[.int .i64 p1, .int .i64 p2] 28) = W2 := ⟨_, rfl⟩
  rw [hW2]
  have hb : Below w2.heap.size w2 W2 := by subst hW2; exact bAlloc (bSelf _) _
  have K7 : Hid (Blk W2 w2.heap.size #[.int .i64 p1, .int .i64 p2]) := by subst hW2; exact Lib.hid (Blk.new _ _ _)
  replace K3 := Lib.hid (K3.out.to hb)
  replace K4 := Lib.hid (K4.out.to hb)
  replace K5 := Lib.hid (K5.out.to hb)
  replace HB := Lib.hid (bThen HB.out hb)
  clear hb hW2
  obtain ⟨B7, hB7⟩ : ∃ B7, w2.heap.size = B7 := ⟨_, rfl⟩
  rw [hB7] at K7 ⊢
  clear hB7
  refine (HQB.out _).mono ?_
  rintro e w3 ⟨rfl, hb⟩
  replace K3 := Lib.hid (K3.out.to hb)
  replace K4 := Lib.hid (K4.out.to hb)
  replace K5 := Lib.hid (K5.out.to hb)
  replace K7 := Lib.hid (K7.out.to hb)
  replace HB := Lib.hid (bThen HB.out hb)
  clear hb HQB
  have k3 := fun o1 => (K3.out.alloc o1).2.1
  have k4 := fun o1 => (K4.out.alloc o1).2.1
  have k5 := fun o1 => (K5.out.alloc o1).2.1
  go_wp2_with fail
  clear k3 k4 k5
  obtain ⟨W3, hW3⟩ : ∃ W3, w3.alloc (.cells #[.int .i64 q1, .int .i64 q2] 28) = W3 := ⟨_, rfl⟩
  rw [hW3]
  have hb : Below w3.heap.size w3 W3 := by subst hW3; exact bAlloc (bSelf _) _
  have K9 : Hid (Blk W3 w3.heap.size #[.int .i64 q1, .int .i64 q2]) := by subst hW3; exact Lib.hid (Blk.new _ _ _)
  replace K3 := Lib.hid (K3.out.to hb)
  replace K4 := Lib.hid (K4.out.to hb)
  replace K5 := Lib.hid (K5.out.to hb)
  replace K7 := Lib.hid (K7.out.to hb)
  replace HB := Lib.hid (bThen HB.out hb)
  clear hb hW3
  obtain ⟨B9, hB9⟩ : ∃ B9, w3.heap.size = B9 := ⟨_, rfl⟩
  rw [hB9] at K9 ⊢
  clear hB9
  refine (HCL.out _).mono ?_
  rintro e w4 ⟨rfl, hb⟩
  replace K3 := Lib.hid (K3.out.to hb)
  replace K4 := Lib.hid (K4.out.to hb)
  replace K5 := Lib.hid (K5.out.to hb)
  replace K7 := Lib.hid (K7.out.to hb)
  replace K9 := Lib.hid (K9.out.to hb)
  replace HB := Lib.hid (bThen HB.out hb)
  clear hb HCL
  obtain ⟨-, k3, -⟩ := K3.out
  go_wp2_with fail
  refine (HCE.out _).mono ?_
  rintro e w5 ⟨rfl, hb⟩
  replace K3 := Lib.hid (K3.out.to hb)
  replace K4 := Lib.hid (K4.out.to hb)
  replace K5 := Lib.hid (K5.out.to hb)
  replace K7 := Lib.hid (K7.out.to hb)
  replace K9 := Lib.hid (K9.out.to hb)
  replace HB := Lib.hid (bThen HB.out hb)
  clear hb HCE k3
  by_cases h0 : ce = 0
  · subst h0
    obtain rfl := HOK.out rfl
    replace HSA := Lib.hid (fun W => HSA.out W rfl)
    replace HSB := Lib.hid (fun W => HSB.out W rfl)
    clear HBAD HOK
    obtain ⟨-, k3, -⟩ := K3.out
    obtain ⟨-, k4, -⟩ := K4.out
    obtain ⟨-, k7, -⟩ := K7.out
    go_wp2_with fail
    refine (HSA.out _).mono ?_
    rintro e w6 ⟨rfl, hb⟩
    replace K3 := Lib.hid (K3.out.to hb)
    replace K4 := Lib.hid (K4.out.to hb)
    replace K5 := Lib.hid (K5.out.to hb)
    replace K7 := Lib.hid (K7.out.to hb)
    replace K9 := Lib.hid (K9.out.to hb)
    replace HB := Lib.hid (bThen HB.out hb)
    clear hb HSA k3 k4 k7
    obtain ⟨-, k3, -⟩ := K3.out
    obtain ⟨-, k4, -⟩ := K4.out
    obtain ⟨-, k9, -⟩ := K9.out
    go_wp2_with fail
    refine (HSB.out _).mono ?_
    rintro e w7 ⟨rfl, hb⟩
    replace K3 := Lib.hid (K3.out.to hb)
    replace K4 := Lib.hid (K4.out.to hb)
    replace K5 := Lib.hid (K5.out.to hb)
    replace K7 := Lib.hid (K7.out.to hb)
    replace K9 := Lib.hid (K9.out.to hb)
    replace HB := Lib.hid (bThen HB.out hb)
    clear hb HSB k3 k4 k9
    obtain ⟨-, k4, -⟩ := K4.out
    obtain ⟨-, k5, -⟩ := K5.out
    go_wp2_with fail
    refine (HME.out _).mono ?_
    rintro e w8 ⟨rfl, hb⟩
    replace K3 := Lib.hid (K3.out.to hb)
    replace K4 := Lib.hid (K4.out.to hb)
    replace K5 := Lib.hid (K5.out.to hb)
    replace K7 := Lib.hid (K7.out.to hb)
    replace K9 := Lib.hid (K9.out.to hb)
    replace HB := Lib.hid (bThen HB.out hb)
    clear hb HME k4 k5
    by_cases h1 : ec = 0
    · subst h1
      clear HER
      obtain ⟨f1, f2, f3, f4, f5, f6, f7, f8, f9, f10, f11⟩ := HFIN.out rfl
      replace HRC := Lib.hid (fun W => HRC.out W rfl)
      rw [f3] at HRC
      have HCM := Lib.hid (fun W => bCmp_any (p1, p2) (q1, q2) W ⟨f1.n0, f1.n1⟩ ⟨by have := f1.d0; omega, f1.d1⟩ ⟨f2.n0, f2.n1⟩ ⟨by have := f2.d0; omega, f2.d1⟩)
      have HC1 := Lib.hid (fun W => bCmp_any (p1, p2) (lo, 1) W ⟨f1.n0, f1.n1⟩ ⟨by have := f1.d0; omega, f1.d1⟩ ⟨by dsimp only; omega, by dsimp only; omega⟩ ⟨by dsimp only; omega, by dsimp only; omega⟩)
      have HC2 := Lib.hid (fun W => bCmp_any (p1, p2) (hi, 1) W ⟨f1.n0, f1.n1⟩ ⟨by have := f1.d0; omega, f1.d1⟩ ⟨by dsimp only; omega, by dsimp only; omega⟩ ⟨by dsimp only; omega, by dsimp only; omega⟩)
      have HC3 := Lib.hid (fun W => bCmp_any (q1, q2) (lo, 1) W ⟨f2.n0, f2.n1⟩ ⟨by have := f2.d0; omega, f2.d1⟩ ⟨by dsimp only; omega, by dsimp only; omega⟩ ⟨by dsimp only; omega, by dsimp only; omega⟩)
      have HC4 := Lib.hid (fun W => bCmp_any (q1, q2) (hi, 1) W ⟨f2.n0, f2.n1⟩ ⟨by have := f2.d0; omega, f2.d1⟩ ⟨by dsimp only; omega, by dsimp only; omega⟩ ⟨by dsimp only; omega, by dsimp only; omega⟩)
      dsimp only at HCM HC1 HC2 HC3 HC4
      have HI1 : Hid (insQ (p1, p2) lo hi = (decide (0 ≤ cmpQ (p1, p2) (lo, 1)) && decide (cmpQ (p1, p2) (hi, 1) ≤ 0))) := Lib.hid rfl
      have HI2 : Hid (insQ (q1, q2) lo hi = (decide (0 ≤ cmpQ (q1, q2) (lo, 1)) && decide (cmpQ (q1, q2) (hi, 1) ≤ 0))) := Lib.hid rfl
      obtain ⟨cm, hcm⟩ : ∃ c, cmpQ (p1, p2) (q1, q2) = c := ⟨_, rfl⟩
      obtain ⟨c1, hc1⟩ : ∃ c, cmpQ (p1, p2) (lo, 1) = c := ⟨_, rfl⟩
      obtain ⟨c2, hc2⟩ : ∃ c, cmpQ (p1, p2) (hi, 1) = c := ⟨_, rfl⟩
      obtain ⟨c3, hc3⟩ : ∃ c, cmpQ (q1, q2) (lo, 1) = c := ⟨_, rfl⟩
      obtain ⟨c4, hc4⟩ : ∃ c, cmpQ (q1, q2) (hi, 1) = c := ⟨_, rfl⟩
      rw [hcm] at HCM f4 f5
      rw [hc1] at HC1 HI1
      rw [hc2] at HC2 HI1
      rw [hc3] at HC3 HI2
      rw [hc4] at HC4 HI2
      have HF6 := Lib.hid f6
      have HF7 := Lib.hid f7
      have g4 : decide (cm < 0) = false := decide_eq_false (by omega)
      have HF5 := Lib.hid f5
      clear hcm hc1 hc2 hc3 hc4 f1 f2 f3 f4 f5 f6 f7 f8 f9 f10 f11 HFIN
      go_upto_region 14 with (fail)
      go_cut [127] from 99 to 127 (fun s127 wc => s127 = .bool false ∧ Hid (Below w8.heap.size w8 wc))
      case first =>
        obtain ⟨-, k3, -⟩ := K3.out
        obtain ⟨-, k4, -⟩ := K4.out
        obtain ⟨-, k5, -⟩ := K5.out
        go_wp2_with fail
        refine (HRC.out _).mono ?_
        rintro e w9 ⟨rfl, hb⟩
        have HT := Lib.hid hb
        clear hb k3 k4 k5
        obtain ⟨-, k7, -⟩ := K7.out.to HT.out
        obtain ⟨-, k9, -⟩ := K9.out.to HT.out
        go_wp2_with fail
        refine (HCM.out _).mono ?_
        rintro e wa ⟨rfl, hb⟩
        replace HT := Lib.hid (bThen HT.out hb)
        clear hb k7 k9
        obtain ⟨-, k4, -⟩ := K4.out.to HT.out
        cases g5 : decide (a < b) with
        | false =>
          go_wp2_with fail
          go_meet
          case rel => exact ⟨rfl, HT⟩
        | true =>
          have g6 : (cm == 0) = false := by have := HF5.out (of_decide_eq_true g5); simpa using this
          obtain ⟨-, k7, -⟩ := K7.out.to HT.out
          obtain ⟨-, k9, -⟩ := K9.out.to HT.out
          go_wp2_with fail
          refine (HCM.out _).mono ?_
          rintro e wb ⟨rfl, hb⟩
          replace HT := Lib.hid (bThen HT.out hb)
          clear hb k7 k9 k4
          go_wp2_with fail
          go_meet
          case rel => exact ⟨rfl, HT⟩
      obtain ⟨wo, hwo⟩ : ∃ wo, wo = wc := ⟨_, rfl⟩
      subst hwo
      obtain ⟨rfl, HWC⟩ := hcut
      replace K5 := Lib.hid (K5.out.to HWC.out)
      replace K7 := Lib.hid (K7.out.to HWC.out)
      replace K9 := Lib.hid (K9.out.to HWC.out)
      replace HB := Lib.hid (bThen HB.out HWC.out)
      clear HWC K3 K4 HCM HRC HF5
      go_upto_region 16 with (fail)
      go_cut [14, 15] from 128 to 133 (fun s14 s15 wc => ∃ BA BZ, s14 = .pointer (some ⟨BA, 0, none⟩) ∧ s15 = .pointer (some ⟨BZ, 0, none⟩) ∧ Hid (Blk wc BA #[.int .i64 lo, .int .i64 1]) ∧ Hid (Blk wc BZ #[.int .i64 hi, .int .i64 1]) ∧ Hid (Below wo.heap.size wo wc))
      case first =>
        refine wp_region_tree (by kernel_rfl) (fun wd hwd => ?_)
        have T := Lib.hid hwd
        clear hwd
        refine WT_yes 0 rfl (by kernel_rfl) (fun _ _ _ _ _ h => h) (by rfl) ?_; apply Exists.intro; refine ⟨fun w1 hb1 => ?_, ?_⟩; (focus ((skip; have hb1 := Lib.hid hb1; go_simp); (try (go_bits; try go_simp)); (try (rw [if_pos (by omega)]; try go_simp)); (first | done | (fail) | (with_reducible rfl) | exact rfl)))
        simp only [Act.put, List.setIfInBounds_toArray, List.set_cons_zero, List.set_cons_succ]
        refine WT_yes 1 rfl (by kernel_rfl) (fun _ _ _ _ _ h => h) (by rfl) ?_; apply Exists.intro; refine ⟨fun w1 hb1 => ?_, ?_⟩; (focus (((obtain ⟨-, k5, -⟩ := K5.out.to (T.out.trans hb1)); have hb1 := Lib.hid hb1; go_simp); (try (go_bits; try go_simp)); (try (rw [if_pos (by omega)]; try go_simp)); (first | done | (fail) | (with_reducible rfl) | exact rfl)))
        simp only [Act.put, List.setIfInBounds_toArray, List.set_cons_zero, List.set_cons_succ]
        refine WT_yes 3 rfl (by kernel_rfl) (fun _ _ _ _ _ h => h) (by rfl) ?_; apply Exists.intro; refine ⟨fun w1 hb1 => ?_, ?_⟩; (focus ((skip; have hb1 := Lib.hid hb1; go_simp); (try (go_bits; try go_simp)); (try (rw [if_pos (by omega)]; try go_simp)); (first | done | (fail) | (with_reducible rfl) | exact rfl)))
        simp only [Act.put, List.setIfInBounds_toArray, List.set_cons_zero, List.set_cons_succ]
        refine WT_yes 4 rfl (by kernel_rfl) (fun _ _ _ _ _ h => h) (by rfl) ?_; apply Exists.intro; refine ⟨fun w1 hb1 => ?_, ?_⟩; (focus (((obtain ⟨-, k5, -⟩ := K5.out.to (T.out.trans hb1)); have hb1 := Lib.hid hb1; go_simp); (try (go_bits; try go_simp)); (try (rw [if_pos (by omega)]; try go_simp)); (first | done | (fail) | (with_reducible rfl) | exact rfl)))
        simp only [Act.put, List.setIfInBounds_toArray, List.set_cons_zero, List.set_cons_succ]
        refine WT_three 2 6 7 rfl rfl rfl (by kernel_rfl) ?_ ?_ ?_
        · unfold stepT
          go_wp2_with fail
          refine (oWhole_any lo _).mono ?_
          rintro e u1 ⟨rfl, hb⟩
          have hbd := Lib.hid (hb.mono T.out.size)
          replace T := Lib.hid (bThen T.out hb)
          clear hb
          go_wp2_with fail
          refine ⟨hbd.out, ?_⟩
          clear hbd
          refine WT_three 5 6 7 rfl rfl rfl (by kernel_rfl) ?_ ?_ ?_
          · unfold stepT
            go_wp2_with fail
            refine (oWhole_any hi _).mono ?_
            rintro e u2 ⟨rfl, hb⟩
            have hbd := Lib.hid (hb.mono T.out.size)
            replace T := Lib.hid (bThen T.out hb)
            clear hb
            go_wp2_with fail
            refine ⟨hbd.out, ?_⟩
            clear hbd
            refine WT_two 6 7 rfl rfl (by kernel_rfl) ?_ ?_
            · unfold stepT
              go_wp2_with fail
              obtain ⟨u3, hwA⟩ : ∃ wA, u2.alloc (.cells #[.int .i64 0, .int .i64 0] 28) = wA := ⟨_, rfl⟩
              rw [hwA]
              have hb : Below u2.heap.size u2 u3 := by subst hwA; exact bAlloc (bSelf _) _
              have KBA : Hid (Blk u3 u2.heap.size #[.int .i64 0, .int .i64 0]) := by subst hwA; exact Blk.new _ _ _
              clear hwA
              have BAN : Hid (wo.heap.size ≤ u2.heap.size) := Lib.hid T.out.size
              obtain ⟨BA, hBA⟩ : ∃ N, u2.heap.size = N := ⟨_, rfl⟩
              have hbd := Lib.hid (hb.mono T.out.size)
              replace T := Lib.hid (bThen T.out hb)
              clear hb
              rw [hBA] at KBA BAN  ⊢
              clear hBA
              refine ⟨hbd.out, ?_⟩
              clear hbd
              refine WT_one 7 rfl (by kernel_rfl) ?_
              unfold stepT
              go_wp2_with fail
              have neBABZ : Hid (BA ≠ u3.heap.size) := Lib.hid (by have := KBA.out.1; omega)
              obtain ⟨u4, hwA⟩ : ∃ wA, u3.alloc (.cells #[.int .i64 0, .int .i64 0] 28) = wA := ⟨_, rfl⟩
              rw [hwA]
              have hb : Below u3.heap.size u3 u4 := by subst hwA; exact bAlloc (bSelf _) _
              replace KBA := Lib.hid (KBA.out.to hb)
              have KBZ : Hid (Blk u4 u3.heap.size #[.int .i64 0, .int .i64 0]) := by subst hwA; exact Blk.new _ _ _
              clear hwA
              have BZN : Hid (wo.heap.size ≤ u3.heap.size) := Lib.hid T.out.size
              obtain ⟨BZ, hBZ⟩ : ∃ N, u3.heap.size = N := ⟨_, rfl⟩
              have hbd := Lib.hid (hb.mono T.out.size)
              replace T := Lib.hid (bThen T.out hb)
              clear hb
              rw [hBZ] at KBZ BZN neBABZ ⊢
              clear hBZ
              refine ⟨hbd.out, ?_⟩
              clear hbd
              refine WT_one 8 rfl (by kernel_rfl) ?_
              unfold stepT
              obtain ⟨-, kx, fx⟩ := KBA.out
              go_wp2_with fail
              clear kx fx
              obtain ⟨u5, hu⟩ : ∃ u, (u4.setCell ⟨BA, 0, none⟩ (.int .i64 lo)).setCell ⟨BA, 1, none⟩ (.int .i64 1) = u := ⟨_, rfl⟩
              have hb : Below wo.heap.size u4 u5 := by rw [← hu]; exact ((Below.refl _ _).setCell (p := ⟨BA, 0, none⟩) BAN.out _).setCell (p := ⟨BA, 1, none⟩) BAN.out _
              replace KBA := Lib.hid ((KBA.out.set 0 (.int .i64 lo)).set 1 (.int .i64 1))
              replace KBZ := Lib.hid ((KBZ.out.other (p := ⟨BA, 0, none⟩) (by first | exact neBABZ.out | exact fun e => neBZBA.out e.symm) (.int .i64 lo)).other (p := ⟨BA, 1, none⟩) (by first | exact neBABZ.out | exact fun e => neBZBA.out e.symm) (.int .i64 1))
              rw [hu] at KBA KBZ ⊢
              clear hu
              replace T := Lib.hid (T.out.trans hb)
              refine ⟨hb, ?_⟩
              clear hb
              refine WT_one 9 rfl (by kernel_rfl) ?_
              unfold stepT
              obtain ⟨-, kx, fx⟩ := KBZ.out
              go_wp2_with fail
              clear kx fx
              obtain ⟨u6, hu⟩ : ∃ u, (u5.setCell ⟨BZ, 0, none⟩ (.int .i64 hi)).setCell ⟨BZ, 1, none⟩ (.int .i64 1) = u := ⟨_, rfl⟩
              have hb : Below wo.heap.size u5 u6 := by rw [← hu]; exact ((Below.refl _ _).setCell (p := ⟨BZ, 0, none⟩) BZN.out _).setCell (p := ⟨BZ, 1, none⟩) BZN.out _
              replace KBA := Lib.hid ((KBA.out.other (p := ⟨BZ, 0, none⟩) (by first | exact neBZBA.out | exact fun e => neBABZ.out e.symm) (.int .i64 hi)).other (p := ⟨BZ, 1, none⟩) (by first | exact neBZBA.out | exact fun e => neBABZ.out e.symm) (.int .i64 1))
              replace KBZ := Lib.hid ((KBZ.out.set 0 (.int .i64 hi)).set 1 (.int .i64 1))
              rw [hu] at KBA KBZ ⊢
              clear hu
              replace T := Lib.hid (T.out.trans hb)
              refine ⟨hb, ?_⟩
              clear hb
              refine WT_done (by kernel_rfl) ?_
              go_wp2_with fail
              go_meet
              case rel => exact ⟨BA, BZ, rfl, rfl, KBA, KBZ, T⟩
            · unfold stepT
              go_wp2_with fail
              obtain ⟨u3, hwA⟩ : ∃ wA, u2.alloc (.cells #[.int .i64 0, .int .i64 0] 28) = wA := ⟨_, rfl⟩
              rw [hwA]
              have hb : Below u2.heap.size u2 u3 := by subst hwA; exact bAlloc (bSelf _) _
              have KBZ : Hid (Blk u3 u2.heap.size #[.int .i64 0, .int .i64 0]) := by subst hwA; exact Blk.new _ _ _
              clear hwA
              have BZN : Hid (wo.heap.size ≤ u2.heap.size) := Lib.hid T.out.size
              obtain ⟨BZ, hBZ⟩ : ∃ N, u2.heap.size = N := ⟨_, rfl⟩
              have hbd := Lib.hid (hb.mono T.out.size)
              replace T := Lib.hid (bThen T.out hb)
              clear hb
              rw [hBZ] at KBZ BZN  ⊢
              clear hBZ
              refine ⟨hbd.out, ?_⟩
              clear hbd
              refine WT_one 6 rfl (by kernel_rfl) ?_
              unfold stepT
              go_wp2_with fail
              have neBZBA : Hid (BZ ≠ u3.heap.size) := Lib.hid (by have := KBZ.out.1; omega)
              obtain ⟨u4, hwA⟩ : ∃ wA, u3.alloc (.cells #[.int .i64 0, .int .i64 0] 28) = wA := ⟨_, rfl⟩
              rw [hwA]
              have hb : Below u3.heap.size u3 u4 := by subst hwA; exact bAlloc (bSelf _) _
              replace KBZ := Lib.hid (KBZ.out.to hb)
              have KBA : Hid (Blk u4 u3.heap.size #[.int .i64 0, .int .i64 0]) := by subst hwA; exact Blk.new _ _ _
              clear hwA
              have BAN : Hid (wo.heap.size ≤ u3.heap.size) := Lib.hid T.out.size
              obtain ⟨BA, hBA⟩ : ∃ N, u3.heap.size = N := ⟨_, rfl⟩
              have hbd := Lib.hid (hb.mono T.out.size)
              replace T := Lib.hid (bThen T.out hb)
              clear hb
              rw [hBA] at KBA BAN neBZBA ⊢
              clear hBA
              refine ⟨hbd.out, ?_⟩
              clear hbd
              refine WT_one 8 rfl (by kernel_rfl) ?_
              unfold stepT
              obtain ⟨-, kx, fx⟩ := KBA.out
              go_wp2_with fail
              clear kx fx
              obtain ⟨u5, hu⟩ : ∃ u, (u4.setCell ⟨BA, 0, none⟩ (.int .i64 lo)).setCell ⟨BA, 1, none⟩ (.int .i64 1) = u := ⟨_, rfl⟩
              have hb : Below wo.heap.size u4 u5 := by rw [← hu]; exact ((Below.refl _ _).setCell (p := ⟨BA, 0, none⟩) BAN.out _).setCell (p := ⟨BA, 1, none⟩) BAN.out _
              replace KBZ := Lib.hid ((KBZ.out.other (p := ⟨BA, 0, none⟩) (by first | exact neBABZ.out | exact fun e => neBZBA.out e.symm) (.int .i64 lo)).other (p := ⟨BA, 1, none⟩) (by first | exact neBABZ.out | exact fun e => neBZBA.out e.symm) (.int .i64 1))
              replace KBA := Lib.hid ((KBA.out.set 0 (.int .i64 lo)).set 1 (.int .i64 1))
              rw [hu] at KBZ KBA ⊢
              clear hu
              replace T := Lib.hid (T.out.trans hb)
              refine ⟨hb, ?_⟩
              clear hb
              refine WT_one 9 rfl (by kernel_rfl) ?_
              unfold stepT
              obtain ⟨-, kx, fx⟩ := KBZ.out
              go_wp2_with fail
              clear kx fx
              obtain ⟨u6, hu⟩ : ∃ u, (u5.setCell ⟨BZ, 0, none⟩ (.int .i64 hi)).setCell ⟨BZ, 1, none⟩ (.int .i64 1) = u := ⟨_, rfl⟩
              have hb : Below wo.heap.size u5 u6 := by rw [← hu]; exact ((Below.refl _ _).setCell (p := ⟨BZ, 0, none⟩) BZN.out _).setCell (p := ⟨BZ, 1, none⟩) BZN.out _
              replace KBZ := Lib.hid ((KBZ.out.set 0 (.int .i64 hi)).set 1 (.int .i64 1))
              replace KBA := Lib.hid ((KBA.out.other (p := ⟨BZ, 0, none⟩) (by first | exact neBZBA.out | exact fun e => neBABZ.out e.symm) (.int .i64 hi)).other (p := ⟨BZ, 1, none⟩) (by first | exact neBZBA.out | exact fun e => neBABZ.out e.symm) (.int .i64 1))
              rw [hu] at KBZ KBA ⊢
              clear hu
              replace T := Lib.hid (T.out.trans hb)
              refine ⟨hb, ?_⟩
              clear hb
              refine WT_done (by kernel_rfl) ?_
              go_wp2_with fail
              go_meet
              case rel => exact ⟨BA, BZ, rfl, rfl, KBA, KBZ, T⟩
          · unfold stepT
            go_wp2_with fail
            obtain ⟨u2, hwA⟩ : ∃ wA, u1.alloc (.cells #[.int .i64 0, .int .i64 0] 28) = wA := ⟨_, rfl⟩
            rw [hwA]
            have hb : Below u1.heap.size u1 u2 := by subst hwA; exact bAlloc (bSelf _) _
            have KBA : Hid (Blk u2 u1.heap.size #[.int .i64 0, .int .i64 0]) := by subst hwA; exact Blk.new _ _ _
            clear hwA
            have BAN : Hid (wo.heap.size ≤ u1.heap.size) := Lib.hid T.out.size
            obtain ⟨BA, hBA⟩ : ∃ N, u1.heap.size = N := ⟨_, rfl⟩
            have hbd := Lib.hid (hb.mono T.out.size)
            replace T := Lib.hid (bThen T.out hb)
            clear hb
            rw [hBA] at KBA BAN  ⊢
            clear hBA
            refine ⟨hbd.out, ?_⟩
            clear hbd
            refine WT_two 5 7 rfl rfl (by kernel_rfl) ?_ ?_
            · unfold stepT
              go_wp2_with fail
              refine (oWhole_any hi _).mono ?_
              rintro e u3 ⟨rfl, hb⟩
              replace KBA := Lib.hid (KBA.out.to hb)
              have hbd := Lib.hid (hb.mono T.out.size)
              replace T := Lib.hid (bThen T.out hb)
              clear hb
              go_wp2_with fail
              refine ⟨hbd.out, ?_⟩
              clear hbd
              refine WT_one 7 rfl (by kernel_rfl) ?_
              unfold stepT
              go_wp2_with fail
              have neBABZ : Hid (BA ≠ u3.heap.size) := Lib.hid (by have := KBA.out.1; omega)
              obtain ⟨u4, hwA⟩ : ∃ wA, u3.alloc (.cells #[.int .i64 0, .int .i64 0] 28) = wA := ⟨_, rfl⟩
              rw [hwA]
              have hb : Below u3.heap.size u3 u4 := by subst hwA; exact bAlloc (bSelf _) _
              replace KBA := Lib.hid (KBA.out.to hb)
              have KBZ : Hid (Blk u4 u3.heap.size #[.int .i64 0, .int .i64 0]) := by subst hwA; exact Blk.new _ _ _
              clear hwA
              have BZN : Hid (wo.heap.size ≤ u3.heap.size) := Lib.hid T.out.size
              obtain ⟨BZ, hBZ⟩ : ∃ N, u3.heap.size = N := ⟨_, rfl⟩
              have hbd := Lib.hid (hb.mono T.out.size)
              replace T := Lib.hid (bThen T.out hb)
              clear hb
              rw [hBZ] at KBZ BZN neBABZ ⊢
              clear hBZ
              refine ⟨hbd.out, ?_⟩
              clear hbd
              refine WT_one 8 rfl (by kernel_rfl) ?_
              unfold stepT
              obtain ⟨-, kx, fx⟩ := KBA.out
              go_wp2_with fail
              clear kx fx
              obtain ⟨u5, hu⟩ : ∃ u, (u4.setCell ⟨BA, 0, none⟩ (.int .i64 lo)).setCell ⟨BA, 1, none⟩ (.int .i64 1) = u := ⟨_, rfl⟩
              have hb : Below wo.heap.size u4 u5 := by rw [← hu]; exact ((Below.refl _ _).setCell (p := ⟨BA, 0, none⟩) BAN.out _).setCell (p := ⟨BA, 1, none⟩) BAN.out _
              replace KBA := Lib.hid ((KBA.out.set 0 (.int .i64 lo)).set 1 (.int .i64 1))
              replace KBZ := Lib.hid ((KBZ.out.other (p := ⟨BA, 0, none⟩) (by first | exact neBABZ.out | exact fun e => neBZBA.out e.symm) (.int .i64 lo)).other (p := ⟨BA, 1, none⟩) (by first | exact neBABZ.out | exact fun e => neBZBA.out e.symm) (.int .i64 1))
              rw [hu] at KBA KBZ ⊢
              clear hu
              replace T := Lib.hid (T.out.trans hb)
              refine ⟨hb, ?_⟩
              clear hb
              refine WT_one 9 rfl (by kernel_rfl) ?_
              unfold stepT
              obtain ⟨-, kx, fx⟩ := KBZ.out
              go_wp2_with fail
              clear kx fx
              obtain ⟨u6, hu⟩ : ∃ u, (u5.setCell ⟨BZ, 0, none⟩ (.int .i64 hi)).setCell ⟨BZ, 1, none⟩ (.int .i64 1) = u := ⟨_, rfl⟩
              have hb : Below wo.heap.size u5 u6 := by rw [← hu]; exact ((Below.refl _ _).setCell (p := ⟨BZ, 0, none⟩) BZN.out _).setCell (p := ⟨BZ, 1, none⟩) BZN.out _
              replace KBA := Lib.hid ((KBA.out.other (p := ⟨BZ, 0, none⟩) (by first | exact neBZBA.out | exact fun e => neBABZ.out e.symm) (.int .i64 hi)).other (p := ⟨BZ, 1, none⟩) (by first | exact neBZBA.out | exact fun e => neBABZ.out e.symm) (.int .i64 1))
              replace KBZ := Lib.hid ((KBZ.out.set 0 (.int .i64 hi)).set 1 (.int .i64 1))
              rw [hu] at KBA KBZ ⊢
              clear hu
              replace T := Lib.hid (T.out.trans hb)
              refine ⟨hb, ?_⟩
              clear hb
              refine WT_done (by kernel_rfl) ?_
              go_wp2_with fail
              go_meet
              case rel => exact ⟨BA, BZ, rfl, rfl, KBA, KBZ, T⟩
            · unfold stepT
              go_wp2_with fail
              have neBABZ : Hid (BA ≠ u2.heap.size) := Lib.hid (by have := KBA.out.1; omega)
              obtain ⟨u3, hwA⟩ : ∃ wA, u2.alloc (.cells #[.int .i64 0, .int .i64 0] 28) = wA := ⟨_, rfl⟩
              rw [hwA]
              have hb : Below u2.heap.size u2 u3 := by subst hwA; exact bAlloc (bSelf _) _
              replace KBA := Lib.hid (KBA.out.to hb)
              have KBZ : Hid (Blk u3 u2.heap.size #[.int .i64 0, .int .i64 0]) := by subst hwA; exact Blk.new _ _ _
              clear hwA
              have BZN : Hid (wo.heap.size ≤ u2.heap.size) := Lib.hid T.out.size
              obtain ⟨BZ, hBZ⟩ : ∃ N, u2.heap.size = N := ⟨_, rfl⟩
              have hbd := Lib.hid (hb.mono T.out.size)
              replace T := Lib.hid (bThen T.out hb)
              clear hb
              rw [hBZ] at KBZ BZN neBABZ ⊢
              clear hBZ
              refine ⟨hbd.out, ?_⟩
              clear hbd
              refine WT_one 5 rfl (by kernel_rfl) ?_
              unfold stepT
              go_wp2_with fail
              refine (oWhole_any hi _).mono ?_
              rintro e u4 ⟨rfl, hb⟩
              replace KBA := Lib.hid (KBA.out.to hb)
              replace KBZ := Lib.hid (KBZ.out.to hb)
              have hbd := Lib.hid (hb.mono T.out.size)
              replace T := Lib.hid (bThen T.out hb)
              clear hb
              go_wp2_with fail
              refine ⟨hbd.out, ?_⟩
              clear hbd
              refine WT_one 8 rfl (by kernel_rfl) ?_
              unfold stepT
              obtain ⟨-, kx, fx⟩ := KBA.out
              go_wp2_with fail
              clear kx fx
              obtain ⟨u5, hu⟩ : ∃ u, (u4.setCell ⟨BA, 0, none⟩ (.int .i64 lo)).setCell ⟨BA, 1, none⟩ (.int .i64 1) = u := ⟨_, rfl⟩
              have hb : Below wo.heap.size u4 u5 := by rw [← hu]; exact ((Below.refl _ _).setCell (p := ⟨BA, 0, none⟩) BAN.out _).setCell (p := ⟨BA, 1, none⟩) BAN.out _
              replace KBA := Lib.hid ((KBA.out.set 0 (.int .i64 lo)).set 1 (.int .i64 1))
              replace KBZ := Lib.hid ((KBZ.out.other (p := ⟨BA, 0, none⟩) (by first | exact neBABZ.out | exact fun e => neBZBA.out e.symm) (.int .i64 lo)).other (p := ⟨BA, 1, none⟩) (by first | exact neBABZ.out | exact fun e => neBZBA.out e.symm) (.int .i64 1))
              rw [hu] at KBA KBZ ⊢
              clear hu
              replace T := Lib.hid (T.out.trans hb)
              refine ⟨hb, ?_⟩
              clear hb
              refine WT_one 9 rfl (by kernel_rfl) ?_
              unfold stepT
              obtain ⟨-, kx, fx⟩ := KBZ.out
              go_wp2_with fail
              clear kx fx
              obtain ⟨u6, hu⟩ : ∃ u, (u5.setCell ⟨BZ, 0, none⟩ (.int .i64 hi)).setCell ⟨BZ, 1, none⟩ (.int .i64 1) = u := ⟨_, rfl⟩
              have hb : Below wo.heap.size u5 u6 := by rw [← hu]; exact ((Below.refl _ _).setCell (p := ⟨BZ, 0, none⟩) BZN.out _).setCell (p := ⟨BZ, 1, none⟩) BZN.out _
              replace KBA := Lib.hid ((KBA.out.other (p := ⟨BZ, 0, none⟩) (by first | exact neBZBA.out | exact fun e => neBABZ.out e.symm) (.int .i64 hi)).other (p := ⟨BZ, 1, none⟩) (by first | exact neBZBA.out | exact fun e => neBABZ.out e.symm) (.int .i64 1))
              replace KBZ := Lib.hid ((KBZ.out.set 0 (.int .i64 hi)).set 1 (.int .i64 1))
              rw [hu] at KBA KBZ ⊢
              clear hu
              replace T := Lib.hid (T.out.trans hb)
              refine ⟨hb, ?_⟩
              clear hb
              refine WT_done (by kernel_rfl) ?_
              go_wp2_with fail
              go_meet
              case rel => exact ⟨BA, BZ, rfl, rfl, KBA, KBZ, T⟩
          · unfold stepT
            go_wp2_with fail
            obtain ⟨u2, hwA⟩ : ∃ wA, u1.alloc (.cells #[.int .i64 0, .int .i64 0] 28) = wA := ⟨_, rfl⟩
            rw [hwA]
            have hb : Below u1.heap.size u1 u2 := by subst hwA; exact bAlloc (bSelf _) _
            have KBZ : Hid (Blk u2 u1.heap.size #[.int .i64 0, .int .i64 0]) := by subst hwA; exact Blk.new _ _ _
            clear hwA
            have BZN : Hid (wo.heap.size ≤ u1.heap.size) := Lib.hid T.out.size
            obtain ⟨BZ, hBZ⟩ : ∃ N, u1.heap.size = N := ⟨_, rfl⟩
            have hbd := Lib.hid (hb.mono T.out.size)
            replace T := Lib.hid (bThen T.out hb)
            clear hb
            rw [hBZ] at KBZ BZN  ⊢
            clear hBZ
            refine ⟨hbd.out, ?_⟩
            clear hbd
            refine WT_two 5 6 rfl rfl (by kernel_rfl) ?_ ?_
            · unfold stepT
              go_wp2_with fail
              refine (oWhole_any hi _).mono ?_
              rintro e u3 ⟨rfl, hb⟩
              replace KBZ := Lib.hid (KBZ.out.to hb)
              have hbd := Lib.hid (hb.mono T.out.size)
              replace T := Lib.hid (bThen T.out hb)
              clear hb
              go_wp2_with fail
              refine ⟨hbd.out, ?_⟩
              clear hbd
              refine WT_one 6 rfl (by kernel_rfl) ?_
              unfold stepT
              go_wp2_with fail
              have neBZBA : Hid (BZ ≠ u3.heap.size) := Lib.hid (by have := KBZ.out.1; omega)
              obtain ⟨u4, hwA⟩ : ∃ wA, u3.alloc (.cells #[.int .i64 0, .int .i64 0] 28) = wA := ⟨_, rfl⟩
              rw [hwA]
              have hb : Below u3.heap.size u3 u4 := by subst hwA; exact bAlloc (bSelf _) _
              replace KBZ := Lib.hid (KBZ.out.to hb)
              have KBA : Hid (Blk u4 u3.heap.size #[.int .i64 0, .int .i64 0]) := by subst hwA; exact Blk.new _ _ _
              clear hwA
              have BAN : Hid (wo.heap.size ≤ u3.heap.size) := Lib.hid T.out.size
              obtain ⟨BA, hBA⟩ : ∃ N, u3.heap.size = N := ⟨_, rfl⟩
              have hbd := Lib.hid (hb.mono T.out.size)
              replace T := Lib.hid (bThen T.out hb)
              clear hb
              rw [hBA] at KBA BAN neBZBA ⊢
              clear hBA
              refine ⟨hbd.out, ?_⟩
              clear hbd
              refine WT_one 8 rfl (by kernel_rfl) ?_
              unfold stepT
              obtain ⟨-, kx, fx⟩ := KBA.out
              go_wp2_with fail
              clear kx fx
              obtain ⟨u5, hu⟩ : ∃ u, (u4.setCell ⟨BA, 0, none⟩ (.int .i64 lo)).setCell ⟨BA, 1, none⟩ (.int .i64 1) = u := ⟨_, rfl⟩
              have hb : Below wo.heap.size u4 u5 := by rw [← hu]; exact ((Below.refl _ _).setCell (p := ⟨BA, 0, none⟩) BAN.out _).setCell (p := ⟨BA, 1, none⟩) BAN.out _
              replace KBZ := Lib.hid ((KBZ.out.other (p := ⟨BA, 0, none⟩) (by first | exact neBABZ.out | exact fun e => neBZBA.out e.symm) (.int .i64 lo)).other (p := ⟨BA, 1, none⟩) (by first | exact neBABZ.out | exact fun e => neBZBA.out e.symm) (.int .i64 1))
              replace KBA := Lib.hid ((KBA.out.set 0 (.int .i64 lo)).set 1 (.int .i64 1))
              rw [hu] at KBZ KBA ⊢
              clear hu
              replace T := Lib.hid (T.out.trans hb)
              refine ⟨hb, ?_⟩
              clear hb
              refine WT_one 9 rfl (by kernel_rfl) ?_
              unfold stepT
              obtain ⟨-, kx, fx⟩ := KBZ.out
              go_wp2_with fail
              clear kx fx
              obtain ⟨u6, hu⟩ : ∃ u, (u5.setCell ⟨BZ, 0, none⟩ (.int .i64 hi)).setCell ⟨BZ, 1, none⟩ (.int .i64 1) = u := ⟨_, rfl⟩
              have hb : Below wo.heap.size u5 u6 := by rw [← hu]; exact ((Below.refl _ _).setCell (p := ⟨BZ, 0, none⟩) BZN.out _).setCell (p := ⟨BZ, 1, none⟩) BZN.out _
              replace KBZ := Lib.hid ((KBZ.out.set 0 (.int .i64 hi)).set 1 (.int .i64 1))
              replace KBA := Lib.hid ((KBA.out.other (p := ⟨BZ, 0, none⟩) (by first | exact neBZBA.out | exact fun e => neBABZ.out e.symm) (.int .i64 hi)).other (p := ⟨BZ, 1, none⟩) (by first | exact neBZBA.out | exact fun e => neBABZ.out e.symm) (.int .i64 1))
              rw [hu] at KBZ KBA ⊢
              clear hu
              replace T := Lib.hid (T.out.trans hb)
              refine ⟨hb, ?_⟩
              clear hb
              refine WT_done (by kernel_rfl) ?_
              go_wp2_with fail
              go_meet
              case rel => exact ⟨BA, BZ, rfl, rfl, KBA, KBZ, T⟩
            · unfold stepT
              go_wp2_with fail
              have neBZBA : Hid (BZ ≠ u2.heap.size) := Lib.hid (by have := KBZ.out.1; omega)
              obtain ⟨u3, hwA⟩ : ∃ wA, u2.alloc (.cells #[.int .i64 0, .int .i64 0] 28) = wA := ⟨_, rfl⟩
              rw [hwA]
              have hb : Below u2.heap.size u2 u3 := by subst hwA; exact bAlloc (bSelf _) _
              replace KBZ := Lib.hid (KBZ.out.to hb)
              have KBA : Hid (Blk u3 u2.heap.size #[.int .i64 0, .int .i64 0]) := by subst hwA; exact Blk.new _ _ _
              clear hwA
              have BAN : Hid (wo.heap.size ≤ u2.heap.size) := Lib.hid T.out.size
              obtain ⟨BA, hBA⟩ : ∃ N, u2.heap.size = N := ⟨_, rfl⟩
              have hbd := Lib.hid (hb.mono T.out.size)
              replace T := Lib.hid (bThen T.out hb)
              clear hb
              rw [hBA] at KBA BAN neBZBA ⊢
              clear hBA
              refine ⟨hbd.out, ?_⟩
              clear hbd
              refine WT_one 5 rfl (by kernel_rfl) ?_
              unfold stepT
              go_wp2_with fail
              refine (oWhole_any hi _).mono ?_
              rintro e u4 ⟨rfl, hb⟩
              replace KBZ := Lib.hid (KBZ.out.to hb)
              replace KBA := Lib.hid (KBA.out.to hb)
              have hbd := Lib.hid (hb.mono T.out.size)
              replace T := Lib.hid (bThen T.out hb)
              clear hb
              go_wp2_with fail
              refine ⟨hbd.out, ?_⟩
              clear hbd
              refine WT_one 8 rfl (by kernel_rfl) ?_
              unfold stepT
              obtain ⟨-, kx, fx⟩ := KBA.out
              go_wp2_with fail
              clear kx fx
              obtain ⟨u5, hu⟩ : ∃ u, (u4.setCell ⟨BA, 0, none⟩ (.int .i64 lo)).setCell ⟨BA, 1, none⟩ (.int .i64 1) = u := ⟨_, rfl⟩
              have hb : Below wo.heap.size u4 u5 := by rw [← hu]; exact ((Below.refl _ _).setCell (p := ⟨BA, 0, none⟩) BAN.out _).setCell (p := ⟨BA, 1, none⟩) BAN.out _
              replace KBZ := Lib.hid ((KBZ.out.other (p := ⟨BA, 0, none⟩) (by first | exact neBABZ.out | exact fun e => neBZBA.out e.symm) (.int .i64 lo)).other (p := ⟨BA, 1, none⟩) (by first | exact neBABZ.out | exact fun e => neBZBA.out e.symm) (.int .i64 1))
              replace KBA := Lib.hid ((KBA.out.set 0 (.int .i64 lo)).set 1 (.int .i64 1))
              rw [hu] at KBZ KBA ⊢
              clear hu
              replace T := Lib.hid (T.out.trans hb)
              refine ⟨hb, ?_⟩
              clear hb
              refine WT_one 9 rfl (by kernel_rfl) ?_
              unfold stepT
              obtain ⟨-, kx, fx⟩ := KBZ.out
              go_wp2_with fail
              clear kx fx
              obtain ⟨u6, hu⟩ : ∃ u, (u5.setCell ⟨BZ, 0, none⟩ (.int .i64 hi)).setCell ⟨BZ, 1, none⟩ (.int .i64 1) = u := ⟨_, rfl⟩
              have hb : Below wo.heap.size u5 u6 := by rw [← hu]; exact ((Below.refl _ _).setCell (p := ⟨BZ, 0, none⟩) BZN.out _).setCell (p := ⟨BZ, 1, none⟩) BZN.out _
              replace KBZ := Lib.hid ((KBZ.out.set 0 (.int .i64 hi)).set 1 (.int .i64 1))
              replace KBA := Lib.hid ((KBA.out.other (p := ⟨BZ, 0, none⟩) (by first | exact neBZBA.out | exact fun e => neBABZ.out e.symm) (.int .i64 hi)).other (p := ⟨BZ, 1, none⟩) (by first | exact neBZBA.out | exact fun e => neBABZ.out e.symm) (.int .i64 1))
              rw [hu] at KBZ KBA ⊢
              clear hu
              replace T := Lib.hid (T.out.trans hb)
              refine ⟨hb, ?_⟩
              clear hb
              refine WT_done (by kernel_rfl) ?_
              go_wp2_with fail
              go_meet
              case rel => exact ⟨BA, BZ, rfl, rfl, KBA, KBZ, T⟩
        · unfold stepT
          go_wp2_with fail
          obtain ⟨u1, hwA⟩ : ∃ wA, wd.alloc (.cells #[.int .i64 0, .int .i64 0] 28) = wA := ⟨_, rfl⟩
          rw [hwA]
          have hb : Below wd.heap.size wd u1 := by subst hwA; exact bAlloc (bSelf _) _
          have KBA : Hid (Blk u1 wd.heap.size #[.int .i64 0, .int .i64 0]) := by subst hwA; exact Blk.new _ _ _
          clear hwA
          have BAN : Hid (wo.heap.size ≤ wd.heap.size) := Lib.hid T.out.size
          obtain ⟨BA, hBA⟩ : ∃ N, wd.heap.size = N := ⟨_, rfl⟩
          have hbd := Lib.hid (hb.mono T.out.size)
          replace T := Lib.hid (bThen T.out hb)
          clear hb
          rw [hBA] at KBA BAN  ⊢
          clear hBA
          refine ⟨hbd.out, ?_⟩
          clear hbd
          refine WT_two 2 7 rfl rfl (by kernel_rfl) ?_ ?_
          · unfold stepT
            go_wp2_with fail
            refine (oWhole_any lo _).mono ?_
            rintro e u2 ⟨rfl, hb⟩
            replace KBA := Lib.hid (KBA.out.to hb)
            have hbd := Lib.hid (hb.mono T.out.size)
            replace T := Lib.hid (bThen T.out hb)
            clear hb
            go_wp2_with fail
            refine ⟨hbd.out, ?_⟩
            clear hbd
            refine WT_two 5 7 rfl rfl (by kernel_rfl) ?_ ?_
            · unfold stepT
              go_wp2_with fail
              refine (oWhole_any hi _).mono ?_
              rintro e u3 ⟨rfl, hb⟩
              replace KBA := Lib.hid (KBA.out.to hb)
              have hbd := Lib.hid (hb.mono T.out.size)
              replace T := Lib.hid (bThen T.out hb)
              clear hb
              go_wp2_with fail
              refine ⟨hbd.out, ?_⟩
              clear hbd
              refine WT_one 7 rfl (by kernel_rfl) ?_
              unfold stepT
              go_wp2_with fail
              have neBABZ : Hid (BA ≠ u3.heap.size) := Lib.hid (by have := KBA.out.1; omega)
              obtain ⟨u4, hwA⟩ : ∃ wA, u3.alloc (.cells #[.int .i64 0, .int .i64 0] 28) = wA := ⟨_, rfl⟩
              rw [hwA]
              have hb : Below u3.heap.size u3 u4 := by subst hwA; exact bAlloc (bSelf _) _
              replace KBA := Lib.hid (KBA.out.to hb)
              have KBZ : Hid (Blk u4 u3.heap.size #[.int .i64 0, .int .i64 0]) := by subst hwA; exact Blk.new _ _ _
              clear hwA
              have BZN : Hid (wo.heap.size ≤ u3.heap.size) := Lib.hid T.out.size
              obtain ⟨BZ, hBZ⟩ : ∃ N, u3.heap.size = N := ⟨_, rfl⟩
              have hbd := Lib.hid (hb.mono T.out.size)
              replace T := Lib.hid (bThen T.out hb)
              clear hb
              rw [hBZ] at KBZ BZN neBABZ ⊢
              clear hBZ
              refine ⟨hbd.out, ?_⟩
              clear hbd
              refine WT_one 8 rfl (by kernel_rfl) ?_
              unfold stepT
              obtain ⟨-, kx, fx⟩ := KBA.out
              go_wp2_with fail
              clear kx fx
              obtain ⟨u5, hu⟩ : ∃ u, (u4.setCell ⟨BA, 0, none⟩ (.int .i64 lo)).setCell ⟨BA, 1, none⟩ (.int .i64 1) = u := ⟨_, rfl⟩
              have hb : Below wo.heap.size u4 u5 := by rw [← hu]; exact ((Below.refl _ _).setCell (p := ⟨BA, 0, none⟩) BAN.out _).setCell (p := ⟨BA, 1, none⟩) BAN.out _
              replace KBA := Lib.hid ((KBA.out.set 0 (.int .i64 lo)).set 1 (.int .i64 1))
              replace KBZ := Lib.hid ((KBZ.out.other (p := ⟨BA, 0, none⟩) (by first | exact neBABZ.out | exact fun e => neBZBA.out e.symm) (.int .i64 lo)).other (p := ⟨BA, 1, none⟩) (by first | exact neBABZ.out | exact fun e => neBZBA.out e.symm) (.int .i64 1))
              rw [hu] at KBA KBZ ⊢
              clear hu
              replace T := Lib.hid (T.out.trans hb)
              refine ⟨hb, ?_⟩
              clear hb
              refine WT_one 9 rfl (by kernel_rfl) ?_
              unfold stepT
              obtain ⟨-, kx, fx⟩ := KBZ.out
              go_wp2_with fail
              clear kx fx
              obtain ⟨u6, hu⟩ : ∃ u, (u5.setCell ⟨BZ, 0, none⟩ (.int .i64 hi)).setCell ⟨BZ, 1, none⟩ (.int .i64 1) = u := ⟨_, rfl⟩
              have hb : Below wo.heap.size u5 u6 := by rw [← hu]; exact ((Below.refl _ _).setCell (p := ⟨BZ, 0, none⟩) BZN.out _).setCell (p := ⟨BZ, 1, none⟩) BZN.out _
              replace KBA := Lib.hid ((KBA.out.other (p := ⟨BZ, 0, none⟩) (by first | exact neBZBA.out | exact fun e => neBABZ.out e.symm) (.int .i64 hi)).other (p := ⟨BZ, 1, none⟩) (by first | exact neBZBA.out | exact fun e => neBABZ.out e.symm) (.int .i64 1))
              replace KBZ := Lib.hid ((KBZ.out.set 0 (.int .i64 hi)).set 1 (.int .i64 1))
              rw [hu] at KBA KBZ ⊢
              clear hu
              replace T := Lib.hid (T.out.trans hb)
              refine ⟨hb, ?_⟩
              clear hb
              refine WT_done (by kernel_rfl) ?_
              go_wp2_with fail
              go_meet
              case rel => exact ⟨BA, BZ, rfl, rfl, KBA, KBZ, T⟩
            · unfold stepT
              go_wp2_with fail
              have neBABZ : Hid (BA ≠ u2.heap.size) := Lib.hid (by have := KBA.out.1; omega)
              obtain ⟨u3, hwA⟩ : ∃ wA, u2.alloc (.cells #[.int .i64 0, .int .i64 0] 28) = wA := ⟨_, rfl⟩
              rw [hwA]
              have hb : Below u2.heap.size u2 u3 := by subst hwA; exact bAlloc (bSelf _) _
              replace KBA := Lib.hid (KBA.out.to hb)
              have KBZ : Hid (Blk u3 u2.heap.size #[.int .i64 0, .int .i64 0]) := by subst hwA; exact Blk.new _ _ _
              clear hwA
              have BZN : Hid (wo.heap.size ≤ u2.heap.size) := Lib.hid T.out.size
              obtain ⟨BZ, hBZ⟩ : ∃ N, u2.heap.size = N := ⟨_, rfl⟩
              have hbd := Lib.hid (hb.mono T.out.size)
              replace T := Lib.hid (bThen T.out hb)
              clear hb
              rw [hBZ] at KBZ BZN neBABZ ⊢
              clear hBZ
              refine ⟨hbd.out, ?_⟩
              clear hbd
              refine WT_one 5 rfl (by kernel_rfl) ?_
              unfold stepT
              go_wp2_with fail
              refine (oWhole_any hi _).mono ?_
              rintro e u4 ⟨rfl, hb⟩
              replace KBA := Lib.hid (KBA.out.to hb)
              replace KBZ := Lib.hid (KBZ.out.to hb)
              have hbd := Lib.hid (hb.mono T.out.size)
              replace T := Lib.hid (bThen T.out hb)
              clear hb
              go_wp2_with fail
              refine ⟨hbd.out, ?_⟩
              clear hbd
              refine WT_one 8 rfl (by kernel_rfl) ?_
              unfold stepT
              obtain ⟨-, kx, fx⟩ := KBA.out
              go_wp2_with fail
              clear kx fx
              obtain ⟨u5, hu⟩ : ∃ u, (u4.setCell ⟨BA, 0, none⟩ (.int .i64 lo)).setCell ⟨BA, 1, none⟩ (.int .i64 1) = u := ⟨_, rfl⟩
              have hb : Below wo.heap.size u4 u5 := by rw [← hu]; exact ((Below.refl _ _).setCell (p := ⟨BA, 0, none⟩) BAN.out _).setCell (p := ⟨BA, 1, none⟩) BAN.out _
              replace KBA := Lib.hid ((KBA.out.set 0 (.int .i64 lo)).set 1 (.int .i64 1))
              replace KBZ := Lib.hid ((KBZ.out.other (p := ⟨BA, 0, none⟩) (by first | exact neBABZ.out | exact fun e => neBZBA.out e.symm) (.int .i64 lo)).other (p := ⟨BA, 1, none⟩) (by first | exact neBABZ.out | exact fun e => neBZBA.out e.symm) (.int .i64 1))
              rw [hu] at KBA KBZ ⊢
              clear hu
              replace T := Lib.hid (T.out.trans hb)
              refine ⟨hb, ?_⟩
              clear hb
              refine WT_one 9 rfl (by kernel_rfl) ?_
              unfold stepT
              obtain ⟨-, kx, fx⟩ := KBZ.out
              go_wp2_with fail
              clear kx fx
              obtain ⟨u6, hu⟩ : ∃ u, (u5.setCell ⟨BZ, 0, none⟩ (.int .i64 hi)).setCell ⟨BZ, 1, none⟩ (.int .i64 1) = u := ⟨_, rfl⟩
              have hb : Below wo.heap.size u5 u6 := by rw [← hu]; exact ((Below.refl _ _).setCell (p := ⟨BZ, 0, none⟩) BZN.out _).setCell (p := ⟨BZ, 1, none⟩) BZN.out _
              replace KBA := Lib.hid ((KBA.out.other (p := ⟨BZ, 0, none⟩) (by first | exact neBZBA.out | exact fun e => neBABZ.out e.symm) (.int .i64 hi)).other (p := ⟨BZ, 1, none⟩) (by first | exact neBZBA.out | exact fun e => neBABZ.out e.symm) (.int .i64 1))
              replace KBZ := Lib.hid ((KBZ.out.set 0 (.int .i64 hi)).set 1 (.int .i64 1))
              rw [hu] at KBA KBZ ⊢
              clear hu
              replace T := Lib.hid (T.out.trans hb)
              refine ⟨hb, ?_⟩
              clear hb
              refine WT_done (by kernel_rfl) ?_
              go_wp2_with fail
              go_meet
              case rel => exact ⟨BA, BZ, rfl, rfl, KBA, KBZ, T⟩
          · unfold stepT
            go_wp2_with fail
            have neBABZ : Hid (BA ≠ u1.heap.size) := Lib.hid (by have := KBA.out.1; omega)
            obtain ⟨u2, hwA⟩ : ∃ wA, u1.alloc (.cells #[.int .i64 0, .int .i64 0] 28) = wA := ⟨_, rfl⟩
            rw [hwA]
            have hb : Below u1.heap.size u1 u2 := by subst hwA; exact bAlloc (bSelf _) _
            replace KBA := Lib.hid (KBA.out.to hb)
            have KBZ : Hid (Blk u2 u1.heap.size #[.int .i64 0, .int .i64 0]) := by subst hwA; exact Blk.new _ _ _
            clear hwA
            have BZN : Hid (wo.heap.size ≤ u1.heap.size) := Lib.hid T.out.size
            obtain ⟨BZ, hBZ⟩ : ∃ N, u1.heap.size = N := ⟨_, rfl⟩
            have hbd := Lib.hid (hb.mono T.out.size)
            replace T := Lib.hid (bThen T.out hb)
            clear hb
            rw [hBZ] at KBZ BZN neBABZ ⊢
            clear hBZ
            refine ⟨hbd.out, ?_⟩
            clear hbd
            refine WT_one 2 rfl (by kernel_rfl) ?_
            unfold stepT
            go_wp2_with fail
            refine (oWhole_any lo _).mono ?_
            rintro e u3 ⟨rfl, hb⟩
            replace KBA := Lib.hid (KBA.out.to hb)
            replace KBZ := Lib.hid (KBZ.out.to hb)
            have hbd := Lib.hid (hb.mono T.out.size)
            replace T := Lib.hid (bThen T.out hb)
            clear hb
            go_wp2_with fail
            refine ⟨hbd.out, ?_⟩
            clear hbd
            refine WT_one 5 rfl (by kernel_rfl) ?_
            unfold stepT
            go_wp2_with fail
            refine (oWhole_any hi _).mono ?_
            rintro e u4 ⟨rfl, hb⟩
            replace KBA := Lib.hid (KBA.out.to hb)
            replace KBZ := Lib.hid (KBZ.out.to hb)
            have hbd := Lib.hid (hb.mono T.out.size)
            replace T := Lib.hid (bThen T.out hb)
            clear hb
            go_wp2_with fail
            refine ⟨hbd.out, ?_⟩
            clear hbd
            refine WT_one 8 rfl (by kernel_rfl) ?_
            unfold stepT
            obtain ⟨-, kx, fx⟩ := KBA.out
            go_wp2_with fail
            clear kx fx
            obtain ⟨u5, hu⟩ : ∃ u, (u4.setCell ⟨BA, 0, none⟩ (.int .i64 lo)).setCell ⟨BA, 1, none⟩ (.int .i64 1) = u := ⟨_, rfl⟩
            have hb : Below wo.heap.size u4 u5 := by rw [← hu]; exact ((Below.refl _ _).setCell (p := ⟨BA, 0, none⟩) BAN.out _).setCell (p := ⟨BA, 1, none⟩) BAN.out _
            replace KBA := Lib.hid ((KBA.out.set 0 (.int .i64 lo)).set 1 (.int .i64 1))
            replace KBZ := Lib.hid ((KBZ.out.other (p := ⟨BA, 0, none⟩) (by first | exact neBABZ.out | exact fun e => neBZBA.out e.symm) (.int .i64 lo)).other (p := ⟨BA, 1, none⟩) (by first | exact neBABZ.out | exact fun e => neBZBA.out e.symm) (.int .i64 1))
            rw [hu] at KBA KBZ ⊢
            clear hu
            replace T := Lib.hid (T.out.trans hb)
            refine ⟨hb, ?_⟩
            clear hb
            refine WT_one 9 rfl (by kernel_rfl) ?_
            unfold stepT
            obtain ⟨-, kx, fx⟩ := KBZ.out
            go_wp2_with fail
            clear kx fx
            obtain ⟨u6, hu⟩ : ∃ u, (u5.setCell ⟨BZ, 0, none⟩ (.int .i64 hi)).setCell ⟨BZ, 1, none⟩ (.int .i64 1) = u := ⟨_, rfl⟩
            have hb : Below wo.heap.size u5 u6 := by rw [← hu]; exact ((Below.refl _ _).setCell (p := ⟨BZ, 0, none⟩) BZN.out _).setCell (p := ⟨BZ, 1, none⟩) BZN.out _
            replace KBA := Lib.hid ((KBA.out.other (p := ⟨BZ, 0, none⟩) (by first | exact neBZBA.out | exact fun e => neBABZ.out e.symm) (.int .i64 hi)).other (p := ⟨BZ, 1, none⟩) (by first | exact neBZBA.out | exact fun e => neBABZ.out e.symm) (.int .i64 1))
            replace KBZ := Lib.hid ((KBZ.out.set 0 (.int .i64 hi)).set 1 (.int .i64 1))
            rw [hu] at KBA KBZ ⊢
            clear hu
            replace T := Lib.hid (T.out.trans hb)
            refine ⟨hb, ?_⟩
            clear hb
            refine WT_done (by kernel_rfl) ?_
            go_wp2_with fail
            go_meet
            case rel => exact ⟨BA, BZ, rfl, rfl, KBA, KBZ, T⟩
        · unfold stepT
          go_wp2_with fail
          obtain ⟨u1, hwA⟩ : ∃ wA, wd.alloc (.cells #[.int .i64 0, .int .i64 0] 28) = wA := ⟨_, rfl⟩
          rw [hwA]
          have hb : Below wd.heap.size wd u1 := by subst hwA; exact bAlloc (bSelf _) _
          have KBZ : Hid (Blk u1 wd.heap.size #[.int .i64 0, .int .i64 0]) := by subst hwA; exact Blk.new _ _ _
          clear hwA
          have BZN : Hid (wo.heap.size ≤ wd.heap.size) := Lib.hid T.out.size
          obtain ⟨BZ, hBZ⟩ : ∃ N, wd.heap.size = N := ⟨_, rfl⟩
          have hbd := Lib.hid (hb.mono T.out.size)
          replace T := Lib.hid (bThen T.out hb)
          clear hb
          rw [hBZ] at KBZ BZN  ⊢
          clear hBZ
          refine ⟨hbd.out, ?_⟩
          clear hbd
          refine WT_two 2 6 rfl rfl (by kernel_rfl) ?_ ?_
          · unfold stepT
            go_wp2_with fail
            refine (oWhole_any lo _).mono ?_
            rintro e u2 ⟨rfl, hb⟩
            replace KBZ := Lib.hid (KBZ.out.to hb)
            have hbd := Lib.hid (hb.mono T.out.size)
            replace T := Lib.hid (bThen T.out hb)
            clear hb
            go_wp2_with fail
            refine ⟨hbd.out, ?_⟩
            clear hbd
            refine WT_two 5 6 rfl rfl (by kernel_rfl) ?_ ?_
            · unfold stepT
              go_wp2_with fail
              refine (oWhole_any hi _).mono ?_
              rintro e u3 ⟨rfl, hb⟩
              replace KBZ := Lib.hid (KBZ.out.to hb)
              have hbd := Lib.hid (hb.mono T.out.size)
              replace T := Lib.hid (bThen T.out hb)
              clear hb
              go_wp2_with fail
              refine ⟨hbd.out, ?_⟩
              clear hbd
              refine WT_one 6 rfl (by kernel_rfl) ?_
              unfold stepT
              go_wp2_with fail
              have neBZBA : Hid (BZ ≠ u3.heap.size) := Lib.hid (by have := KBZ.out.1; omega)
              obtain ⟨u4, hwA⟩ : ∃ wA, u3.alloc (.cells #[.int .i64 0, .int .i64 0] 28) = wA := ⟨_, rfl⟩
              rw [hwA]
              have hb : Below u3.heap.size u3 u4 := by subst hwA; exact bAlloc (bSelf _) _
              replace KBZ := Lib.hid (KBZ.out.to hb)
              have KBA : Hid (Blk u4 u3.heap.size #[.int .i64 0, .int .i64 0]) := by subst hwA; exact Blk.new _ _ _
              clear hwA
              have BAN : Hid (wo.heap.size ≤ u3.heap.size) := Lib.hid T.out.size
              obtain ⟨BA, hBA⟩ : ∃ N, u3.heap.size = N := ⟨_, rfl⟩
              have hbd := Lib.hid (hb.mono T.out.size)
              replace T := Lib.hid (bThen T.out hb)
              clear hb
              rw [hBA] at KBA BAN neBZBA ⊢
              clear hBA
              refine ⟨hbd.out, ?_⟩
              clear hbd
              refine WT_one 8 rfl (by kernel_rfl) ?_
              unfold stepT
              obtain ⟨-, kx, fx⟩ := KBA.out
              go_wp2_with fail
              clear kx fx
              obtain ⟨u5, hu⟩ : ∃ u, (u4.setCell ⟨BA, 0, none⟩ (.int .i64 lo)).setCell ⟨BA, 1, none⟩ (.int .i64 1) = u := ⟨_, rfl⟩
              have hb : Below wo.heap.size u4 u5 := by rw [← hu]; exact ((Below.refl _ _).setCell (p := ⟨BA, 0, none⟩) BAN.out _).setCell (p := ⟨BA, 1, none⟩) BAN.out _
              replace KBZ := Lib.hid ((KBZ.out.other (p := ⟨BA, 0, none⟩) (by first | exact neBABZ.out | exact fun e => neBZBA.out e.symm) (.int .i64 lo)).other (p := ⟨BA, 1, none⟩) (by first | exact neBABZ.out | exact fun e => neBZBA.out e.symm) (.int .i64 1))
              replace KBA := Lib.hid ((KBA.out.set 0 (.int .i64 lo)).set 1 (.int .i64 1))
              rw [hu] at KBZ KBA ⊢
              clear hu
              replace T := Lib.hid (T.out.trans hb)
              refine ⟨hb, ?_⟩
              clear hb
              refine WT_one 9 rfl (by kernel_rfl) ?_
              unfold stepT
              obtain ⟨-, kx, fx⟩ := KBZ.out
              go_wp2_with fail
              clear kx fx
              obtain ⟨u6, hu⟩ : ∃ u, (u5.setCell ⟨BZ, 0, none⟩ (.int .i64 hi)).setCell ⟨BZ, 1, none⟩ (.int .i64 1) = u := ⟨_, rfl⟩
              have hb : Below wo.heap.size u5 u6 := by rw [← hu]; exact ((Below.refl _ _).setCell (p := ⟨BZ, 0, none⟩) BZN.out _).setCell (p := ⟨BZ, 1, none⟩) BZN.out _
              replace KBZ := Lib.hid ((KBZ.out.set 0 (.int .i64 hi)).set 1 (.int .i64 1))
              replace KBA := Lib.hid ((KBA.out.other (p := ⟨BZ, 0, none⟩) (by first | exact neBZBA.out | exact fun e => neBABZ.out e.symm) (.int .i64 hi)).other (p := ⟨BZ, 1, none⟩) (by first | exact neBZBA.out | exact fun e => neBABZ.out e.symm) (.int .i64 1))
              rw [hu] at KBZ KBA ⊢
              clear hu
              replace T := Lib.hid (T.out.trans hb)
              refine ⟨hb, ?_⟩
              clear hb
              refine WT_done (by kernel_rfl) ?_
              go_wp2_with fail
              go_meet
              case rel => exact ⟨BA, BZ, rfl, rfl, KBA, KBZ, T⟩
            · unfold stepT
              go_wp2_with fail
              have neBZBA : Hid (BZ ≠ u2.heap.size) := Lib.hid (by have := KBZ.out.1; omega)
              obtain ⟨u3, hwA⟩ : ∃ wA, u2.alloc (.cells #[.int .i64 0, .int .i64 0] 28) = wA := ⟨_, rfl⟩
              rw [hwA]
              have hb : Below u2.heap.size u2 u3 := by subst hwA; exact bAlloc (bSelf _) _
              replace KBZ := Lib.hid (KBZ.out.to hb)
              have KBA : Hid (Blk u3 u2.heap.size #[.int .i64 0, .int .i64 0]) := by subst hwA; exact Blk.new _ _ _
              clear hwA
              have BAN : Hid (wo.heap.size ≤ u2.heap.size) := Lib.hid T.out.size
              obtain ⟨BA, hBA⟩ : ∃ N, u2.heap.size = N := ⟨_, rfl⟩
              have hbd := Lib.hid (hb.mono T.out.size)
              replace T := Lib.hid (bThen T.out hb)
              clear hb
              rw [hBA] at KBA BAN neBZBA ⊢
              clear hBA
              refine ⟨hbd.out, ?_⟩
              clear hbd
              refine WT_one 5 rfl (by kernel_rfl) ?_
              unfold stepT
              go_wp2_with fail
              refine (oWhole_any hi _).mono ?_
              rintro e u4 ⟨rfl, hb⟩
              replace KBZ := Lib.hid (KBZ.out.to hb)
              replace KBA := Lib.hid (KBA.out.to hb)
              have hbd := Lib.hid (hb.mono T.out.size)
              replace T := Lib.hid (bThen T.out hb)
              clear hb
              go_wp2_with fail
              refine ⟨hbd.out, ?_⟩
              clear hbd
              refine WT_one 8 rfl (by kernel_rfl) ?_
              unfold stepT
              obtain ⟨-, kx, fx⟩ := KBA.out
              go_wp2_with fail
              clear kx fx
              obtain ⟨u5, hu⟩ : ∃ u, (u4.setCell ⟨BA, 0, none⟩ (.int .i64 lo)).setCell ⟨BA, 1, none⟩ (.int .i64 1) = u := ⟨_, rfl⟩
              have hb : Below wo.heap.size u4 u5 := by rw [← hu]; exact ((Below.refl _ _).setCell (p := ⟨BA, 0, none⟩) BAN.out _).setCell (p := ⟨BA, 1, none⟩) BAN.out _
              replace KBZ := Lib.hid ((KBZ.out.other (p := ⟨BA, 0, none⟩) (by first | exact neBABZ.out | exact fun e => neBZBA.out e.symm) (.int .i64 lo)).other (p := ⟨BA, 1, none⟩) (by first | exact neBABZ.out | exact fun e => neBZBA.out e.symm) (.int .i64 1))
              replace KBA := Lib.hid ((KBA.out.set 0 (.int .i64 lo)).set 1 (.int .i64 1))
              rw [hu] at KBZ KBA ⊢
              clear hu
              replace T := Lib.hid (T.out.trans hb)
              refine ⟨hb, ?_⟩
              clear hb
              refine WT_one 9 rfl (by kernel_rfl) ?_
              unfold stepT
              obtain ⟨-, kx, fx⟩ := KBZ.out
              go_wp2_with fail
              clear kx fx
              obtain ⟨u6, hu⟩ : ∃ u, (u5.setCell ⟨BZ, 0, none⟩ (.int .i64 hi)).setCell ⟨BZ, 1, none⟩ (.int .i64 1) = u := ⟨_, rfl⟩
              have hb : Below wo.heap.size u5 u6 := by rw [← hu]; exact ((Below.refl _ _).setCell (p := ⟨BZ, 0, none⟩) BZN.out _).setCell (p := ⟨BZ, 1, none⟩) BZN.out _
              replace KBZ := Lib.hid ((KBZ.out.set 0 (.int .i64 hi)).set 1 (.int .i64 1))
              replace KBA := Lib.hid ((KBA.out.other (p := ⟨BZ, 0, none⟩) (by first | exact neBZBA.out | exact fun e => neBABZ.out e.symm) (.int .i64 hi)).other (p := ⟨BZ, 1, none⟩) (by first | exact neBZBA.out | exact fun e => neBABZ.out e.symm) (.int .i64 1))
              rw [hu] at KBZ KBA ⊢
              clear hu
              replace T := Lib.hid (T.out.trans hb)
              refine ⟨hb, ?_⟩
              clear hb
              refine WT_done (by kernel_rfl) ?_
              go_wp2_with fail
              go_meet
              case rel => exact ⟨BA, BZ, rfl, rfl, KBA, KBZ, T⟩
          · unfold stepT
            go_wp2_with fail
            have neBZBA : Hid (BZ ≠ u1.heap.size) := Lib.hid (by have := KBZ.out.1; omega)
            obtain ⟨u2, hwA⟩ : ∃ wA, u1.alloc (.cells #[.int .i64 0, .int .i64 0] 28) = wA := ⟨_, rfl⟩
            rw [hwA]
            have hb : Below u1.heap.size u1 u2 := by subst hwA; exact bAlloc (bSelf _) _
            replace KBZ := Lib.hid (KBZ.out.to hb)
            have KBA : Hid (Blk u2 u1.heap.size #[.int .i64 0, .int .i64 0]) := by subst hwA; exact Blk.new _ _ _
            clear hwA
            have BAN : Hid (wo.heap.size ≤ u1.heap.size) := Lib.hid T.out.size
            obtain ⟨BA, hBA⟩ : ∃ N, u1.heap.size = N := ⟨_, rfl⟩
            have hbd := Lib.hid (hb.mono T.out.size)
            replace T := Lib.hid (bThen T.out hb)
            clear hb
            rw [hBA] at KBA BAN neBZBA ⊢
            clear hBA
            refine ⟨hbd.out, ?_⟩
            clear hbd
            refine WT_one 2 rfl (by kernel_rfl) ?_
            unfold stepT
            go_wp2_with fail
            refine (oWhole_any lo _).mono ?_
            rintro e u3 ⟨rfl, hb⟩
            replace KBZ := Lib.hid (KBZ.out.to hb)
            replace KBA := Lib.hid (KBA.out.to hb)
            have hbd := Lib.hid (hb.mono T.out.size)
            replace T := Lib.hid (bThen T.out hb)
            clear hb
            go_wp2_with fail
            refine ⟨hbd.out, ?_⟩
            clear hbd
            refine WT_one 5 rfl (by kernel_rfl) ?_
            unfold stepT
            go_wp2_with fail
            refine (oWhole_any hi _).mono ?_
            rintro e u4 ⟨rfl, hb⟩
            replace KBZ := Lib.hid (KBZ.out.to hb)
            replace KBA := Lib.hid (KBA.out.to hb)
            have hbd := Lib.hid (hb.mono T.out.size)
            replace T := Lib.hid (bThen T.out hb)
            clear hb
            go_wp2_with fail
            refine ⟨hbd.out, ?_⟩
            clear hbd
            refine WT_one 8 rfl (by kernel_rfl) ?_
            unfold stepT
            obtain ⟨-, kx, fx⟩ := KBA.out
            go_wp2_with fail
            clear kx fx
            obtain ⟨u5, hu⟩ : ∃ u, (u4.setCell ⟨BA, 0, none⟩ (.int .i64 lo)).setCell ⟨BA, 1, none⟩ (.int .i64 1) = u := ⟨_, rfl⟩
            have hb : Below wo.heap.size u4 u5 := by rw [← hu]; exact ((Below.refl _ _).setCell (p := ⟨BA, 0, none⟩) BAN.out _).setCell (p := ⟨BA, 1, none⟩) BAN.out _
            replace KBZ := Lib.hid ((KBZ.out.other (p := ⟨BA, 0, none⟩) (by first | exact neBABZ.out | exact fun e => neBZBA.out e.symm) (.int .i64 lo)).other (p := ⟨BA, 1, none⟩) (by first | exact neBABZ.out | exact fun e => neBZBA.out e.symm) (.int .i64 1))
            replace KBA := Lib.hid ((KBA.out.set 0 (.int .i64 lo)).set 1 (.int .i64 1))
            rw [hu] at KBZ KBA ⊢
            clear hu
            replace T := Lib.hid (T.out.trans hb)
            refine ⟨hb, ?_⟩
            clear hb
            refine WT_one 9 rfl (by kernel_rfl) ?_
            unfold stepT
            obtain ⟨-, kx, fx⟩ := KBZ.out
            go_wp2_with fail
            clear kx fx
            obtain ⟨u6, hu⟩ : ∃ u, (u5.setCell ⟨BZ, 0, none⟩ (.int .i64 hi)).setCell ⟨BZ, 1, none⟩ (.int .i64 1) = u := ⟨_, rfl⟩
            have hb : Below wo.heap.size u5 u6 := by rw [← hu]; exact ((Below.refl _ _).setCell (p := ⟨BZ, 0, none⟩) BZN.out _).setCell (p := ⟨BZ, 1, none⟩) BZN.out _
            replace KBZ := Lib.hid ((KBZ.out.set 0 (.int .i64 hi)).set 1 (.int .i64 1))
            replace KBA := Lib.hid ((KBA.out.other (p := ⟨BZ, 0, none⟩) (by first | exact neBZBA.out | exact fun e => neBABZ.out e.symm) (.int .i64 hi)).other (p := ⟨BZ, 1, none⟩) (by first | exact neBZBA.out | exact fun e => neBABZ.out e.symm) (.int .i64 1))
            rw [hu] at KBZ KBA ⊢
            clear hu
            replace T := Lib.hid (T.out.trans hb)
            refine ⟨hb, ?_⟩
            clear hb
            refine WT_done (by kernel_rfl) ?_
            go_wp2_with fail
            go_meet
            case rel => exact ⟨BA, BZ, rfl, rfl, KBA, KBZ, T⟩
      obtain ⟨wp, hwp⟩ : ∃ wp, wp = wc := ⟨_, rfl⟩
      subst hwp
      obtain ⟨BA, BZ, rfl, rfl, KBA, KBZ, HWC⟩ := hcut
      replace K7 := Lib.hid (K7.out.to HWC.out)
      replace K9 := Lib.hid (K9.out.to HWC.out)
      replace HB := Lib.hid (bThen HB.out HWC.out)
      clear HWC K5
      go_upto_region 17 with (fail)
      go_cut [16] from 134 to 154 (fun s16 wc => ∃ B, s16 = .pointer (some ⟨B, 0, none⟩) ∧ Hid (Blk wc B #[.bool (insQ (p1, p2) lo hi), .bool (insQ (q1, q2) lo hi)]) ∧ Hid (Below wp.heap.size wp wc))
      case first =>
        clear HF6 HF7
        cases g1 : decide (0 ≤ c1)
        · cases g3 : decide (0 ≤ c3)
          · have G1 := Lib.hid g1
            have G3 := Lib.hid g3
            refine wp_region_tree (by kernel_rfl) (fun wd hwd => ?_)
            have T := Lib.hid hwd
            clear hwd
            refine WT_yes 0 rfl (by kernel_rfl) (fun _ _ _ _ _ h => h) (by rfl) ?_; apply Exists.intro; refine ⟨fun w1 hb1 => ?_, ?_⟩; (focus (((obtain ⟨-, k7, -⟩ := K7.out.to (T.out.trans hb1)); have hb1 := Lib.hid hb1; go_simp); (try (go_bits; try go_simp)); (try (rw [if_pos (by omega)]; try go_simp)); (first | done | (fail) | (with_reducible rfl) | exact rfl)))
            simp only [Act.put, List.setIfInBounds_toArray, List.set_cons_zero, List.set_cons_succ]
            refine WT_yes 1 rfl (by kernel_rfl) (fun _ _ _ _ _ h => h) (by rfl) ?_; apply Exists.intro; refine ⟨fun w1 hb1 => ?_, ?_⟩; (focus (((obtain ⟨-, kba, -⟩ := KBA.out.to (T.out.trans hb1)); have hb1 := Lib.hid hb1; go_simp); (try (go_bits; try go_simp)); (try (rw [if_pos (by omega)]; try go_simp)); (first | done | (fail) | (with_reducible rfl) | exact rfl)))
            simp only [Act.put, List.setIfInBounds_toArray, List.set_cons_zero, List.set_cons_succ]
            refine WT_yes 10 rfl (by kernel_rfl) (fun _ _ _ _ _ h => h) (by rfl) ?_; apply Exists.intro; refine ⟨fun w1 hb1 => ?_, ?_⟩; (focus (((obtain ⟨-, k9, -⟩ := K9.out.to (T.out.trans hb1)); have hb1 := Lib.hid hb1; go_simp); (try (go_bits; try go_simp)); (try (rw [if_pos (by omega)]; try go_simp)); (first | done | (fail) | (with_reducible rfl) | exact rfl)))
            simp only [Act.put, List.setIfInBounds_toArray, List.set_cons_zero, List.set_cons_succ]
            refine WT_yes 11 rfl (by kernel_rfl) (fun _ _ _ _ _ h => h) (by rfl) ?_; apply Exists.intro; refine ⟨fun w1 hb1 => ?_, ?_⟩; (focus (((obtain ⟨-, kba, -⟩ := KBA.out.to (T.out.trans hb1)); have hb1 := Lib.hid hb1; go_simp); (try (go_bits; try go_simp)); (try (rw [if_pos (by omega)]; try go_simp)); (first | done | (fail) | (with_reducible rfl) | exact rfl)))
            simp only [Act.put, List.setIfInBounds_toArray, List.set_cons_zero, List.set_cons_succ]
            refine WT_two 2 21 rfl rfl (by kernel_rfl) ?_ ?_
            · unfold stepT
              go_wp2_with fail
              refine (HC1.out _).mono ?_
              rintro e u1 ⟨rfl, hb⟩
              have hbd := Lib.hid (hb.mono T.out.size)
              replace T := Lib.hid (bThen T.out hb)
              clear hb
              go_wp2_with fail
              refine ⟨hbd.out, ?_⟩
              clear hbd
              refine WT_yes 3 rfl (by kernel_rfl) (fun _ _ _ _ _ h => h) (by rfl) ?_; apply Exists.intro; refine ⟨fun w1 hb1 => ?_, ?_⟩; (focus ((skip; have hb1 := Lib.hid hb1; go_simp); (try (go_bits; try go_simp)); (try (rw [if_pos (by omega)]; try go_simp)); (first | done | (fail) | (with_reducible rfl) | exact rfl)))
              simp only [Act.put, List.setIfInBounds_toArray, List.set_cons_zero, List.set_cons_succ]
              refine WT_yes 4 rfl (by kernel_rfl) (fun _ _ _ _ _ h => h) (by rfl) ?_; apply Exists.intro; refine ⟨fun w1 hb1 => ?_, ?_⟩; (focus ((skip; have hb1 := Lib.hid hb1; go_simp); (try (go_bits; try go_simp)); (try (rw [if_pos (by omega)]; try go_simp)); (first | done | (fail) | (with_reducible rfl) | exact rfl)))
              simp only [Act.put, List.setIfInBounds_toArray, List.set_cons_zero, List.set_cons_succ]
              refine WT_no 5 rfl (by kernel_rfl) (fun _ _ _ _ _ h => h) (by rfl) ?_
              simp only [Act.put, List.setIfInBounds_toArray, List.set_cons_zero, List.set_cons_succ]
              refine WT_no 6 rfl (by kernel_rfl) (fun _ _ _ _ _ h => h) (by rfl) ?_
              simp only [Act.put, List.setIfInBounds_toArray, List.set_cons_zero, List.set_cons_succ]
              refine WT_no 7 rfl (by kernel_rfl) (fun _ _ _ _ _ h => h) (by rfl) ?_
              simp only [Act.put, List.setIfInBounds_toArray, List.set_cons_zero, List.set_cons_succ]
              refine WT_no 8 rfl (by kernel_rfl) (fun _ _ _ _ _ h => h) (by rfl) ?_
              simp only [Act.put, List.setIfInBounds_toArray, List.set_cons_zero, List.set_cons_succ]
              refine WT_yes 9 rfl (by kernel_rfl) (fun _ _ _ _ _ h => h) (by rfl) ?_; apply Exists.intro; refine ⟨fun w1 hb1 => ?_, ?_⟩; (focus ((skip; have hb1 := Lib.hid hb1; go_simp); (try (go_bits; try go_simp)); (try (rw [if_pos (by omega)]; try go_simp)); (first | done | (fail) | (with_reducible rfl) | exact rfl)))
              simp only [Act.put, List.setIfInBounds_toArray, List.set_cons_zero, List.set_cons_succ]
              refine WT_two 12 21 rfl rfl (by kernel_rfl) ?_ ?_
              · unfold stepT
                go_wp2_with fail
                refine (HC3.out _).mono ?_
                rintro e u2 ⟨rfl, hb⟩
                have hbd := Lib.hid (hb.mono T.out.size)
                replace T := Lib.hid (bThen T.out hb)
                clear hb
                go_wp2_with fail
                refine ⟨hbd.out, ?_⟩
                clear hbd
                refine WT_yes 13 rfl (by kernel_rfl) (fun _ _ _ _ _ h => h) (by rfl) ?_; apply Exists.intro; refine ⟨fun w1 hb1 => ?_, ?_⟩; (focus ((skip; have hb1 := Lib.hid hb1; go_simp); (try (go_bits; try go_simp)); (try (rw [if_pos (by omega)]; try go_simp)); (first | done | (fail) | (with_reducible rfl) | exact rfl)))
                simp only [Act.put, List.setIfInBounds_toArray, List.set_cons_zero, List.set_cons_succ]
                refine WT_yes 14 rfl (by kernel_rfl) (fun _ _ _ _ _ h => h) (by rfl) ?_; apply Exists.intro; refine ⟨fun w1 hb1 => ?_, ?_⟩; (focus ((skip; have hb1 := Lib.hid hb1; go_simp); (try (go_bits; try go_simp)); (try (rw [if_pos (by omega)]; try go_simp)); (first | done | (fail) | (with_reducible rfl) | exact rfl)))
                simp only [Act.put, List.setIfInBounds_toArray, List.set_cons_zero, List.set_cons_succ]
                refine WT_no 15 rfl (by kernel_rfl) (fun _ _ _ _ _ h => h) (by rfl) ?_
                simp only [Act.put, List.setIfInBounds_toArray, List.set_cons_zero, List.set_cons_succ]
                refine WT_no 16 rfl (by kernel_rfl) (fun _ _ _ _ _ h => h) (by rfl) ?_
                simp only [Act.put, List.setIfInBounds_toArray, List.set_cons_zero, List.set_cons_succ]
                refine WT_no 17 rfl (by kernel_rfl) (fun _ _ _ _ _ h => h) (by rfl) ?_
                simp only [Act.put, List.setIfInBounds_toArray, List.set_cons_zero, List.set_cons_succ]
                refine WT_no 18 rfl (by kernel_rfl) (fun _ _ _ _ _ h => h) (by rfl) ?_
                simp only [Act.put, List.setIfInBounds_toArray, List.set_cons_zero, List.set_cons_succ]
                refine WT_yes 19 rfl (by kernel_rfl) (fun _ _ _ _ _ h => h) (by rfl) ?_; apply Exists.intro; refine ⟨fun w1 hb1 => ?_, ?_⟩; (focus ((skip; have hb1 := Lib.hid hb1; go_simp); (try (go_bits; try go_simp)); (try (rw [if_pos (by omega)]; try go_simp)); (first | done | (fail) | (with_reducible rfl) | exact rfl)))
                simp only [Act.put, List.setIfInBounds_toArray, List.set_cons_zero, List.set_cons_succ]
                refine WT_yes 20 rfl (by kernel_rfl) (fun _ _ _ _ _ h => h) (by rfl) ⟨.agg #[.bool false, .bool false], fun w1 hb1 => (by go_simp), ?_⟩
                simp only [Act.put, List.setIfInBounds_toArray, List.set_cons_zero, List.set_cons_succ]
                refine WT_one 21 rfl (by kernel_rfl) ?_
                unfold stepT
                go_wp2_with fail
                obtain ⟨u3, hwA⟩ : ∃ wA, u2.alloc (.cells #[.bool false, .bool false] 40) = wA := ⟨_, rfl⟩
                rw [hwA]
                have hb : Below u2.heap.size u2 u3 := by subst hwA; exact bAlloc (bSelf _) _
                have KBX : Hid (Blk u3 u2.heap.size #[.bool false, .bool false]) := by subst hwA; exact Blk.new _ _ _
                clear hwA
                have BXN : Hid (wp.heap.size ≤ u2.heap.size) := Lib.hid T.out.size
                obtain ⟨BX, hBX⟩ : ∃ N, u2.heap.size = N := ⟨_, rfl⟩
                have hbd := Lib.hid (hb.mono T.out.size)
                replace T := Lib.hid (bThen T.out hb)
                clear hb
                rw [hBX] at KBX BXN  ⊢
                clear hBX
                refine ⟨hbd.out, ?_⟩
                clear hbd
                refine WT_one 22 rfl (by kernel_rfl) ?_
                unfold stepT
                obtain ⟨-, kx, fx⟩ := KBX.out
                go_wp2_with fail
                clear kx fx
                obtain ⟨u4, hu⟩ : ∃ u, (u3.setCell ⟨BX, 0, none⟩ (.bool false)).setCell ⟨BX, 1, none⟩ (.bool false) = u := ⟨_, rfl⟩
                have hb : Below wp.heap.size u3 u4 := by rw [← hu]; exact ((Below.refl _ _).setCell (p := ⟨BX, 0, none⟩) BXN.out _).setCell (p := ⟨BX, 1, none⟩) BXN.out _
                replace KBX := Lib.hid ((KBX.out.set 0 (.bool false)).set 1 (.bool false))
                rw [hu] at KBX ⊢
                clear hu
                replace T := Lib.hid (T.out.trans hb)
                refine ⟨hb, ?_⟩
                clear hb
                refine WT_done (by kernel_rfl) ?_
                go_wp2_with fail
                go_meet
                case rel => exact ⟨BX, rfl, Lib.hid (by rw [HI1.out, HI2.out, G1.out, G3.out]; exact KBX.out), T⟩
              · unfold stepT
                go_wp2_with fail
                obtain ⟨u2, hwA⟩ : ∃ wA, u1.alloc (.cells #[.bool false, .bool false] 40) = wA := ⟨_, rfl⟩
                rw [hwA]
                have hb : Below u1.heap.size u1 u2 := by subst hwA; exact bAlloc (bSelf _) _
                have KBX : Hid (Blk u2 u1.heap.size #[.bool false, .bool false]) := by subst hwA; exact Blk.new _ _ _
                clear hwA
                have BXN : Hid (wp.heap.size ≤ u1.heap.size) := Lib.hid T.out.size
                obtain ⟨BX, hBX⟩ : ∃ N, u1.heap.size = N := ⟨_, rfl⟩
                have hbd := Lib.hid (hb.mono T.out.size)
                replace T := Lib.hid (bThen T.out hb)
                clear hb
                rw [hBX] at KBX BXN  ⊢
                clear hBX
                refine ⟨hbd.out, ?_⟩
                clear hbd
                refine WT_one 12 rfl (by kernel_rfl) ?_
                unfold stepT
                go_wp2_with fail
                refine (HC3.out _).mono ?_
                rintro e u3 ⟨rfl, hb⟩
                replace KBX := Lib.hid (KBX.out.to hb)
                have hbd := Lib.hid (hb.mono T.out.size)
                replace T := Lib.hid (bThen T.out hb)
                clear hb
                go_wp2_with fail
                refine ⟨hbd.out, ?_⟩
                clear hbd
                refine WT_yes 13 rfl (by kernel_rfl) (fun _ _ _ _ _ h => h) (by rfl) ?_; apply Exists.intro; refine ⟨fun w1 hb1 => ?_, ?_⟩; (focus ((skip; have hb1 := Lib.hid hb1; go_simp); (try (go_bits; try go_simp)); (try (rw [if_pos (by omega)]; try go_simp)); (first | done | (fail) | (with_reducible rfl) | exact rfl)))
                simp only [Act.put, List.setIfInBounds_toArray, List.set_cons_zero, List.set_cons_succ]
                refine WT_yes 14 rfl (by kernel_rfl) (fun _ _ _ _ _ h => h) (by rfl) ?_; apply Exists.intro; refine ⟨fun w1 hb1 => ?_, ?_⟩; (focus ((skip; have hb1 := Lib.hid hb1; go_simp); (try (go_bits; try go_simp)); (try (rw [if_pos (by omega)]; try go_simp)); (first | done | (fail) | (with_reducible rfl) | exact rfl)))
                simp only [Act.put, List.setIfInBounds_toArray, List.set_cons_zero, List.set_cons_succ]
                refine WT_no 15 rfl (by kernel_rfl) (fun _ _ _ _ _ h => h) (by rfl) ?_
                simp only [Act.put, List.setIfInBounds_toArray, List.set_cons_zero, List.set_cons_succ]
                refine WT_no 16 rfl (by kernel_rfl) (fun _ _ _ _ _ h => h) (by rfl) ?_
                simp only [Act.put, List.setIfInBounds_toArray, List.set_cons_zero, List.set_cons_succ]
                refine WT_no 17 rfl (by kernel_rfl) (fun _ _ _ _ _ h => h) (by rfl) ?_
                simp only [Act.put, List.setIfInBounds_toArray, List.set_cons_zero, List.set_cons_succ]
                refine WT_no 18 rfl (by kernel_rfl) (fun _ _ _ _ _ h => h) (by rfl) ?_
                simp only [Act.put, List.setIfInBounds_toArray, List.set_cons_zero, List.set_cons_succ]
                refine WT_yes 19 rfl (by kernel_rfl) (fun _ _ _ _ _ h => h) (by rfl) ?_; apply Exists.intro; refine ⟨fun w1 hb1 => ?_, ?_⟩; (focus ((skip; have hb1 := Lib.hid hb1; go_simp); (try (go_bits; try go_simp)); (try (rw [if_pos (by omega)]; try go_simp)); (first | done | (fail) | (with_reducible rfl) | exact rfl)))
                simp only [Act.put, List.setIfInBounds_toArray, List.set_cons_zero, List.set_cons_succ]
                refine WT_yes 20 rfl (by kernel_rfl) (fun _ _ _ _ _ h => h) (by rfl) ⟨.agg #[.bool false, .bool false], fun w1 hb1 => (by go_simp), ?_⟩
                simp only [Act.put, List.setIfInBounds_toArray, List.set_cons_zero, List.set_cons_succ]
                refine WT_one 22 rfl (by kernel_rfl) ?_
                unfold stepT
                obtain ⟨-, kx, fx⟩ := KBX.out
                go_wp2_with fail
                clear kx fx
                obtain ⟨u4, hu⟩ : ∃ u, (u3.setCell ⟨BX, 0, none⟩ (.bool false)).setCell ⟨BX, 1, none⟩ (.bool false) = u := ⟨_, rfl⟩
                have hb : Below wp.heap.size u3 u4 := by rw [← hu]; exact ((Below.refl _ _).setCell (p := ⟨BX, 0, none⟩) BXN.out _).setCell (p := ⟨BX, 1, none⟩) BXN.out _
                replace KBX := Lib.hid ((KBX.out.set 0 (.bool false)).set 1 (.bool false))
                rw [hu] at KBX ⊢
                clear hu
                replace T := Lib.hid (T.out.trans hb)
                refine ⟨hb, ?_⟩
                clear hb
                refine WT_done (by kernel_rfl) ?_
                go_wp2_with fail
                go_meet
                case rel => exact ⟨BX, rfl, Lib.hid (by rw [HI1.out, HI2.out, G1.out, G3.out]; exact KBX.out), T⟩
            · unfold stepT
              go_wp2_with fail
              obtain ⟨u1, hwA⟩ : ∃ wA, wd.alloc (.cells #[.bool false, .bool false] 40) = wA := ⟨_, rfl⟩
              rw [hwA]
              have hb : Below wd.heap.size wd u1 := by subst hwA; exact bAlloc (bSelf _) _
              have KBX : Hid (Blk u1 wd.heap.size #[.bool false, .bool false]) := by subst hwA; exact Blk.new _ _ _
              clear hwA
              have BXN : Hid (wp.heap.size ≤ wd.heap.size) := Lib.hid T.out.size
              obtain ⟨BX, hBX⟩ : ∃ N, wd.heap.size = N := ⟨_, rfl⟩
              have hbd := Lib.hid (hb.mono T.out.size)
              replace T := Lib.hid (bThen T.out hb)
              clear hb
              rw [hBX] at KBX BXN  ⊢
              clear hBX
              refine ⟨hbd.out, ?_⟩
              clear hbd
              refine WT_one 2 rfl (by kernel_rfl) ?_
              unfold stepT
              go_wp2_with fail
              refine (HC1.out _).mono ?_
              rintro e u2 ⟨rfl, hb⟩
              replace KBX := Lib.hid (KBX.out.to hb)
              have hbd := Lib.hid (hb.mono T.out.size)
              replace T := Lib.hid (bThen T.out hb)
              clear hb
              go_wp2_with fail
              refine ⟨hbd.out, ?_⟩
              clear hbd
              refine WT_yes 3 rfl (by kernel_rfl) (fun _ _ _ _ _ h => h) (by rfl) ?_; apply Exists.intro; refine ⟨fun w1 hb1 => ?_, ?_⟩; (focus ((skip; have hb1 := Lib.hid hb1; go_simp); (try (go_bits; try go_simp)); (try (rw [if_pos (by omega)]; try go_simp)); (first | done | (fail) | (with_reducible rfl) | exact rfl)))
              simp only [Act.put, List.setIfInBounds_toArray, List.set_cons_zero, List.set_cons_succ]
              refine WT_yes 4 rfl (by kernel_rfl) (fun _ _ _ _ _ h => h) (by rfl) ?_; apply Exists.intro; refine ⟨fun w1 hb1 => ?_, ?_⟩; (focus ((skip; have hb1 := Lib.hid hb1; go_simp); (try (go_bits; try go_simp)); (try (rw [if_pos (by omega)]; try go_simp)); (first | done | (fail) | (with_reducible rfl) | exact rfl)))
              simp only [Act.put, List.setIfInBounds_toArray, List.set_cons_zero, List.set_cons_succ]
              refine WT_no 5 rfl (by kernel_rfl) (fun _ _ _ _ _ h => h) (by rfl) ?_
              simp only [Act.put, List.setIfInBounds_toArray, List.set_cons_zero, List.set_cons_succ]
              refine WT_no 6 rfl (by kernel_rfl) (fun _ _ _ _ _ h => h) (by rfl) ?_
              simp only [Act.put, List.setIfInBounds_toArray, List.set_cons_zero, List.set_cons_succ]
              refine WT_no 7 rfl (by kernel_rfl) (fun _ _ _ _ _ h => h) (by rfl) ?_
              simp only [Act.put, List.setIfInBounds_toArray, List.set_cons_zero, List.set_cons_succ]
              refine WT_no 8 rfl (by kernel_rfl) (fun _ _ _ _ _ h => h) (by rfl) ?_
              simp only [Act.put, List.setIfInBounds_toArray, List.set_cons_zero, List.set_cons_succ]
              refine WT_yes 9 rfl (by kernel_rfl) (fun _ _ _ _ _ h => h) (by rfl) ?_; apply Exists.intro; refine ⟨fun w1 hb1 => ?_, ?_⟩; (focus ((skip; have hb1 := Lib.hid hb1; go_simp); (try (go_bits; try go_simp)); (try (rw [if_pos (by omega)]; try go_simp)); (first | done | (fail) | (with_reducible rfl) | exact rfl)))
              simp only [Act.put, List.setIfInBounds_toArray, List.set_cons_zero, List.set_cons_succ]
              refine WT_one 12 rfl (by kernel_rfl) ?_
              unfold stepT
              go_wp2_with fail
              refine (HC3.out _).mono ?_
              rintro e u3 ⟨rfl, hb⟩
              replace KBX := Lib.hid (KBX.out.to hb)
              have hbd := Lib.hid (hb.mono T.out.size)
              replace T := Lib.hid (bThen T.out hb)
              clear hb
              go_wp2_with fail
              refine ⟨hbd.out, ?_⟩
              clear hbd
              refine WT_yes 13 rfl (by kernel_rfl) (fun _ _ _ _ _ h => h) (by rfl) ?_; apply Exists.intro; refine ⟨fun w1 hb1 => ?_, ?_⟩; (focus ((skip; have hb1 := Lib.hid hb1; go_simp); (try (go_bits; try go_simp)); (try (rw [if_pos (by omega)]; try go_simp)); (first | done | (fail) | (with_reducible rfl) | exact rfl)))
              simp only [Act.put, List.setIfInBounds_toArray, List.set_cons_zero, List.set_cons_succ]
              refine WT_yes 14 rfl (by kernel_rfl) (fun _ _ _ _ _ h => h) (by rfl) ?_; apply Exists.intro; refine ⟨fun w1 hb1 => ?_, ?_⟩; (focus ((skip; have hb1 := Lib.hid hb1; go_simp); (try (go_bits; try go_simp)); (try (rw [if_pos (by omega)]; try go_simp)); (first | done | (fail) | (with_reducible rfl) | exact rfl)))
              simp only [Act.put, List.setIfInBounds_toArray, List.set_cons_zero, List.set_cons_succ]
              refine WT_no 15 rfl (by kernel_rfl) (fun _ _ _ _ _ h => h) (by rfl) ?_
              simp only [Act.put, List.setIfInBounds_toArray, List.set_cons_zero, List.set_cons_succ]
              refine WT_no 16 rfl (by kernel_rfl) (fun _ _ _ _ _ h => h) (by rfl) ?_
              simp only [Act.put, List.setIfInBounds_toArray, List.set_cons_zero, List.set_cons_succ]
              refine WT_no 17 rfl (by kernel_rfl) (fun _ _ _ _ _ h => h) (by rfl) ?_
              simp only [Act.put, List.setIfInBounds_toArray, List.set_cons_zero, List.set_cons_succ]
              refine WT_no 18 rfl (by kernel_rfl) (fun _ _ _ _ _ h => h) (by rfl) ?_
              simp only [Act.put, List.setIfInBounds_toArray, List.set_cons_zero, List.set_cons_succ]
              refine WT_yes 19 rfl (by kernel_rfl) (fun _ _ _ _ _ h => h) (by rfl) ?_; apply Exists.intro; refine ⟨fun w1 hb1 => ?_, ?_⟩; (focus ((skip; have hb1 := Lib.hid hb1; go_simp); (try (go_bits; try go_simp)); (try (rw [if_pos (by omega)]; try go_simp)); (first | done | (fail) | (with_reducible rfl) | exact rfl)))
              simp only [Act.put, List.setIfInBounds_toArray, List.set_cons_zero, List.set_cons_succ]
              refine WT_yes 20 rfl (by kernel_rfl) (fun _ _ _ _ _ h => h) (by rfl) ⟨.agg #[.bool false, .bool false], fun w1 hb1 => (by go_simp), ?_⟩
              simp only [Act.put, List.setIfInBounds_toArray, List.set_cons_zero, List.set_cons_succ]
              refine WT_one 22 rfl (by kernel_rfl) ?_
              unfold stepT
              obtain ⟨-, kx, fx⟩ := KBX.out
              go_wp2_with fail
              clear kx fx
              obtain ⟨u4, hu⟩ : ∃ u, (u3.setCell ⟨BX, 0, none⟩ (.bool false)).setCell ⟨BX, 1, none⟩ (.bool false) = u := ⟨_, rfl⟩
              have hb : Below wp.heap.size u3 u4 := by rw [← hu]; exact ((Below.refl _ _).setCell (p := ⟨BX, 0, none⟩) BXN.out _).setCell (p := ⟨BX, 1, none⟩) BXN.out _
              replace KBX := Lib.hid ((KBX.out.set 0 (.bool false)).set 1 (.bool false))
              rw [hu] at KBX ⊢
              clear hu
              replace T := Lib.hid (T.out.trans hb)
              refine ⟨hb, ?_⟩
              clear hb
              refine WT_done (by kernel_rfl) ?_
              go_wp2_with fail
              go_meet
              case rel => exact ⟨BX, rfl, Lib.hid (by rw [HI1.out, HI2.out, G1.out, G3.out]; exact KBX.out), T⟩
          · have G1 := Lib.hid g1
            have G3 := Lib.hid g3
            refine wp_region_tree (by kernel_rfl) (fun wd hwd => ?_)
            have T := Lib.hid hwd
            clear hwd
            refine WT_yes 0 rfl (by kernel_rfl) (fun _ _ _ _ _ h => h) (by rfl) ?_; apply Exists.intro; refine ⟨fun w1 hb1 => ?_, ?_⟩; (focus (((obtain ⟨-, k7, -⟩ := K7.out.to (T.out.trans hb1)); have hb1 := Lib.hid hb1; go_simp); (try (go_bits; try go_simp)); (try (rw [if_pos (by omega)]; try go_simp)); (first | done | (fail) | (with_reducible rfl) | exact rfl)))
            simp only [Act.put, List.setIfInBounds_toArray, List.set_cons_zero, List.set_cons_succ]
            refine WT_yes 1 rfl (by kernel_rfl) (fun _ _ _ _ _ h => h) (by rfl) ?_; apply Exists.intro; refine ⟨fun w1 hb1 => ?_, ?_⟩; (focus (((obtain ⟨-, kba, -⟩ := KBA.out.to (T.out.trans hb1)); have hb1 := Lib.hid hb1; go_simp); (try (go_bits; try go_simp)); (try (rw [if_pos (by omega)]; try go_simp)); (first | done | (fail) | (with_reducible rfl) | exact rfl)))
            simp only [Act.put, List.setIfInBounds_toArray, List.set_cons_zero, List.set_cons_succ]
            refine WT_yes 10 rfl (by kernel_rfl) (fun _ _ _ _ _ h => h) (by rfl) ?_; apply Exists.intro; refine ⟨fun w1 hb1 => ?_, ?_⟩; (focus (((obtain ⟨-, k9, -⟩ := K9.out.to (T.out.trans hb1)); have hb1 := Lib.hid hb1; go_simp); (try (go_bits; try go_simp)); (try (rw [if_pos (by omega)]; try go_simp)); (first | done | (fail) | (with_reducible rfl) | exact rfl)))
            simp only [Act.put, List.setIfInBounds_toArray, List.set_cons_zero, List.set_cons_succ]
            refine WT_yes 11 rfl (by kernel_rfl) (fun _ _ _ _ _ h => h) (by rfl) ?_; apply Exists.intro; refine ⟨fun w1 hb1 => ?_, ?_⟩; (focus (((obtain ⟨-, kba, -⟩ := KBA.out.to (T.out.trans hb1)); have hb1 := Lib.hid hb1; go_simp); (try (go_bits; try go_simp)); (try (rw [if_pos (by omega)]; try go_simp)); (first | done | (fail) | (with_reducible rfl) | exact rfl)))
            simp only [Act.put, List.setIfInBounds_toArray, List.set_cons_zero, List.set_cons_succ]
            refine WT_two 2 21 rfl rfl (by kernel_rfl) ?_ ?_
            · unfold stepT
              go_wp2_with fail
              refine (HC1.out _).mono ?_
              rintro e u1 ⟨rfl, hb⟩
              have hbd := Lib.hid (hb.mono T.out.size)
              replace T := Lib.hid (bThen T.out hb)
              clear hb
              go_wp2_with fail
              refine ⟨hbd.out, ?_⟩
              clear hbd
              refine WT_yes 3 rfl (by kernel_rfl) (fun _ _ _ _ _ h => h) (by rfl) ?_; apply Exists.intro; refine ⟨fun w1 hb1 => ?_, ?_⟩; (focus ((skip; have hb1 := Lib.hid hb1; go_simp); (try (go_bits; try go_simp)); (try (rw [if_pos (by omega)]; try go_simp)); (first | done | (fail) | (with_reducible rfl) | exact rfl)))
              simp only [Act.put, List.setIfInBounds_toArray, List.set_cons_zero, List.set_cons_succ]
              refine WT_yes 4 rfl (by kernel_rfl) (fun _ _ _ _ _ h => h) (by rfl) ?_; apply Exists.intro; refine ⟨fun w1 hb1 => ?_, ?_⟩; (focus ((skip; have hb1 := Lib.hid hb1; go_simp); (try (go_bits; try go_simp)); (try (rw [if_pos (by omega)]; try go_simp)); (first | done | (fail) | (with_reducible rfl) | exact rfl)))
              simp only [Act.put, List.setIfInBounds_toArray, List.set_cons_zero, List.set_cons_succ]
              refine WT_no 5 rfl (by kernel_rfl) (fun _ _ _ _ _ h => h) (by rfl) ?_
              simp only [Act.put, List.setIfInBounds_toArray, List.set_cons_zero, List.set_cons_succ]
              refine WT_no 6 rfl (by kernel_rfl) (fun _ _ _ _ _ h => h) (by rfl) ?_
              simp only [Act.put, List.setIfInBounds_toArray, List.set_cons_zero, List.set_cons_succ]
              refine WT_no 7 rfl (by kernel_rfl) (fun _ _ _ _ _ h => h) (by rfl) ?_
              simp only [Act.put, List.setIfInBounds_toArray, List.set_cons_zero, List.set_cons_succ]
              refine WT_no 8 rfl (by kernel_rfl) (fun _ _ _ _ _ h => h) (by rfl) ?_
              simp only [Act.put, List.setIfInBounds_toArray, List.set_cons_zero, List.set_cons_succ]
              refine WT_yes 9 rfl (by kernel_rfl) (fun _ _ _ _ _ h => h) (by rfl) ?_; apply Exists.intro; refine ⟨fun w1 hb1 => ?_, ?_⟩; (focus ((skip; have hb1 := Lib.hid hb1; go_simp); (try (go_bits; try go_simp)); (try (rw [if_pos (by omega)]; try go_simp)); (first | done | (fail) | (with_reducible rfl) | exact rfl)))
              simp only [Act.put, List.setIfInBounds_toArray, List.set_cons_zero, List.set_cons_succ]
              refine WT_two 12 21 rfl rfl (by kernel_rfl) ?_ ?_
              · unfold stepT
                go_wp2_with fail
                refine (HC3.out _).mono ?_
                rintro e u2 ⟨rfl, hb⟩
                have hbd := Lib.hid (hb.mono T.out.size)
                replace T := Lib.hid (bThen T.out hb)
                clear hb
                go_wp2_with fail
                refine ⟨hbd.out, ?_⟩
                clear hbd
                refine WT_yes 13 rfl (by kernel_rfl) (fun _ _ _ _ _ h => h) (by rfl) ?_; apply Exists.intro; refine ⟨fun w1 hb1 => ?_, ?_⟩; (focus ((skip; have hb1 := Lib.hid hb1; go_simp); (try (go_bits; try go_simp)); (try (rw [if_pos (by omega)]; try go_simp)); (first | done | (fail) | (with_reducible rfl) | exact rfl)))
                simp only [Act.put, List.setIfInBounds_toArray, List.set_cons_zero, List.set_cons_succ]
                refine WT_yes 14 rfl (by kernel_rfl) (fun _ _ _ _ _ h => h) (by rfl) ?_; apply Exists.intro; refine ⟨fun w1 hb1 => ?_, ?_⟩; (focus ((skip; have hb1 := Lib.hid hb1; go_simp); (try (go_bits; try go_simp)); (try (rw [if_pos (by omega)]; try go_simp)); (first | done | (fail) | (with_reducible rfl) | exact rfl)))
                simp only [Act.put, List.setIfInBounds_toArray, List.set_cons_zero, List.set_cons_succ]
                refine WT_yes 15 rfl (by kernel_rfl) (fun _ _ _ _ _ h => h) (by rfl) ?_; apply Exists.intro; refine ⟨fun w1 hb1 => ?_, ?_⟩; (focus (((obtain ⟨-, k9, -⟩ := K9.out.to (T.out.trans hb1)); have hb1 := Lib.hid hb1; go_simp); (try (go_bits; try go_simp)); (try (rw [if_pos (by omega)]; try go_simp)); (first | done | (fail) | (with_reducible rfl) | exact rfl)))
                simp only [Act.put, List.setIfInBounds_toArray, List.set_cons_zero, List.set_cons_succ]
                refine WT_yes 16 rfl (by kernel_rfl) (fun _ _ _ _ _ h => h) (by rfl) ?_; apply Exists.intro; refine ⟨fun w1 hb1 => ?_, ?_⟩; (focus (((obtain ⟨-, kbz, -⟩ := KBZ.out.to (T.out.trans hb1)); have hb1 := Lib.hid hb1; go_simp); (try (go_bits; try go_simp)); (try (rw [if_pos (by omega)]; try go_simp)); (first | done | (fail) | (with_reducible rfl) | exact rfl)))
                simp only [Act.put, List.setIfInBounds_toArray, List.set_cons_zero, List.set_cons_succ]
                refine WT_two 17 21 rfl rfl (by kernel_rfl) ?_ ?_
                · unfold stepT
                  go_wp2_with fail
                  refine (HC4.out _).mono ?_
                  rintro e u3 ⟨rfl, hb⟩
                  have hbd := Lib.hid (hb.mono T.out.size)
                  replace T := Lib.hid (bThen T.out hb)
                  clear hb
                  go_wp2_with fail
                  refine ⟨hbd.out, ?_⟩
                  clear hbd
                  refine WT_yes 18 rfl (by kernel_rfl) (fun _ _ _ _ _ h => h) (by rfl) ?_; apply Exists.intro; refine ⟨fun w1 hb1 => ?_, ?_⟩; (focus ((skip; have hb1 := Lib.hid hb1; go_simp); (try (go_bits; try go_simp)); (try (rw [if_pos (by omega)]; try go_simp)); (first | done | (fail) | (with_reducible rfl) | exact rfl)))
                  simp only [Act.put, List.setIfInBounds_toArray, List.set_cons_zero, List.set_cons_succ]
                  refine WT_yes 19 rfl (by kernel_rfl) (fun _ _ _ _ _ h => h) (by rfl) ?_; apply Exists.intro; refine ⟨fun w1 hb1 => ?_, ?_⟩; (focus ((skip; have hb1 := Lib.hid hb1; go_simp); (try (go_bits; try go_simp)); (try (rw [if_pos (by omega)]; try go_simp)); (first | done | (fail) | (with_reducible rfl) | exact rfl)))
                  simp only [Act.put, List.setIfInBounds_toArray, List.set_cons_zero, List.set_cons_succ]
                  refine WT_yes 20 rfl (by kernel_rfl) (fun _ _ _ _ _ h => h) (by rfl) ⟨.agg #[.bool false, .bool (decide (c4 ≤ 0))], fun w1 hb1 => (by go_simp), ?_⟩
                  simp only [Act.put, List.setIfInBounds_toArray, List.set_cons_zero, List.set_cons_succ]
                  refine WT_one 21 rfl (by kernel_rfl) ?_
                  unfold stepT
                  go_wp2_with fail
                  obtain ⟨u4, hwA⟩ : ∃ wA, u3.alloc (.cells #[.bool false, .bool false] 40) = wA := ⟨_, rfl⟩
                  rw [hwA]
                  have hb : Below u3.heap.size u3 u4 := by subst hwA; exact bAlloc (bSelf _) _
                  have KBX : Hid (Blk u4 u3.heap.size #[.bool false, .bool false]) := by subst hwA; exact Blk.new _ _ _
                  clear hwA
                  have BXN : Hid (wp.heap.size ≤ u3.heap.size) := Lib.hid T.out.size
                  obtain ⟨BX, hBX⟩ : ∃ N, u3.heap.size = N := ⟨_, rfl⟩
                  have hbd := Lib.hid (hb.mono T.out.size)
                  replace T := Lib.hid (bThen T.out hb)
                  clear hb
                  rw [hBX] at KBX BXN  ⊢
                  clear hBX
                  refine ⟨hbd.out, ?_⟩
                  clear hbd
                  refine WT_one 22 rfl (by kernel_rfl) ?_
                  unfold stepT
                  obtain ⟨-, kx, fx⟩ := KBX.out
                  go_wp2_with fail
                  clear kx fx
                  obtain ⟨u5, hu⟩ : ∃ u, (u4.setCell ⟨BX, 0, none⟩ (.bool false)).setCell ⟨BX, 1, none⟩ (.bool (decide (c4 ≤ 0))) = u := ⟨_, rfl⟩
                  have hb : Below wp.heap.size u4 u5 := by rw [← hu]; exact ((Below.refl _ _).setCell (p := ⟨BX, 0, none⟩) BXN.out _).setCell (p := ⟨BX, 1, none⟩) BXN.out _
                  replace KBX := Lib.hid ((KBX.out.set 0 (.bool false)).set 1 (.bool (decide (c4 ≤ 0))))
                  rw [hu] at KBX ⊢
                  clear hu
                  replace T := Lib.hid (T.out.trans hb)
                  refine ⟨hb, ?_⟩
                  clear hb
                  refine WT_done (by kernel_rfl) ?_
                  go_wp2_with fail
                  go_meet
                  case rel => exact ⟨BX, rfl, Lib.hid (by rw [HI1.out, HI2.out, G1.out, G3.out]; exact KBX.out), T⟩
                · unfold stepT
                  go_wp2_with fail
                  obtain ⟨u3, hwA⟩ : ∃ wA, u2.alloc (.cells #[.bool false, .bool false] 40) = wA := ⟨_, rfl⟩
                  rw [hwA]
                  have hb : Below u2.heap.size u2 u3 := by subst hwA; exact bAlloc (bSelf _) _
                  have KBX : Hid (Blk u3 u2.heap.size #[.bool false, .bool false]) := by subst hwA; exact Blk.new _ _ _
                  clear hwA
                  have BXN : Hid (wp.heap.size ≤ u2.heap.size) := Lib.hid T.out.size
                  obtain ⟨BX, hBX⟩ : ∃ N, u2.heap.size = N := ⟨_, rfl⟩
                  have hbd := Lib.hid (hb.mono T.out.size)
                  replace T := Lib.hid (bThen T.out hb)
                  clear hb
                  rw [hBX] at KBX BXN  ⊢
                  clear hBX
                  refine ⟨hbd.out, ?_⟩
                  clear hbd
                  refine WT_one 17 rfl (by kernel_rfl) ?_
                  unfold stepT
                  go_wp2_with fail
                  refine (HC4.out _).mono ?_
                  rintro e u4 ⟨rfl, hb⟩
                  replace KBX := Lib.hid (KBX.out.to hb)
                  have hbd := Lib.hid (hb.mono T.out.size)
                  replace T := Lib.hid (bThen T.out hb)
                  clear hb
                  go_wp2_with fail
                  refine ⟨hbd.out, ?_⟩
                  clear hbd
                  refine WT_yes 18 rfl (by kernel_rfl) (fun _ _ _ _ _ h => h) (by rfl) ?_; apply Exists.intro; refine ⟨fun w1 hb1 => ?_, ?_⟩; (focus ((skip; have hb1 := Lib.hid hb1; go_simp); (try (go_bits; try go_simp)); (try (rw [if_pos (by omega)]; try go_simp)); (first | done | (fail) | (with_reducible rfl) | exact rfl)))
                  simp only [Act.put, List.setIfInBounds_toArray, List.set_cons_zero, List.set_cons_succ]
                  refine WT_yes 19 rfl (by kernel_rfl) (fun _ _ _ _ _ h => h) (by rfl) ?_; apply Exists.intro; refine ⟨fun w1 hb1 => ?_, ?_⟩; (focus ((skip; have hb1 := Lib.hid hb1; go_simp); (try (go_bits; try go_simp)); (try (rw [if_pos (by omega)]; try go_simp)); (first | done | (fail) | (with_reducible rfl) | exact rfl)))
                  simp only [Act.put, List.setIfInBounds_toArray, List.set_cons_zero, List.set_cons_succ]
                  refine WT_yes 20 rfl (by kernel_rfl) (fun _ _ _ _ _ h => h) (by rfl) ⟨.agg #[.bool false, .bool (decide (c4 ≤ 0))], fun w1 hb1 => (by go_simp), ?_⟩
                  simp only [Act.put, List.setIfInBounds_toArray, List.set_cons_zero, List.set_cons_succ]
                  refine WT_one 22 rfl (by kernel_rfl) ?_
                  unfold stepT
                  obtain ⟨-, kx, fx⟩ := KBX.out
                  go_wp2_with fail
                  clear kx fx
                  obtain ⟨u5, hu⟩ : ∃ u, (u4.setCell ⟨BX, 0, none⟩ (.bool false)).setCell ⟨BX, 1, none⟩ (.bool (decide (c4 ≤ 0))) = u := ⟨_, rfl⟩
                  have hb : Below wp.heap.size u4 u5 := by rw [← hu]; exact ((Below.refl _ _).setCell (p := ⟨BX, 0, none⟩) BXN.out _).setCell (p := ⟨BX, 1, none⟩) BXN.out _
                  replace KBX := Lib.hid ((KBX.out.set 0 (.bool false)).set 1 (.bool (decide (c4 ≤ 0))))
                  rw [hu] at KBX ⊢
                  clear hu
                  replace T := Lib.hid (T.out.trans hb)
                  refine ⟨hb, ?_⟩
                  clear hb
                  refine WT_done (by kernel_rfl) ?_
                  go_wp2_with fail
                  go_meet
                  case rel => exact ⟨BX, rfl, Lib.hid (by rw [HI1.out, HI2.out, G1.out, G3.out]; exact KBX.out), T⟩
              · unfold stepT
                go_wp2_with fail
                obtain ⟨u2, hwA⟩ : ∃ wA, u1.alloc (.cells #[.bool false, .bool false] 40) = wA := ⟨_, rfl⟩
                rw [hwA]
                have hb : Below u1.heap.size u1 u2 := by subst hwA; exact bAlloc (bSelf _) _
                have KBX : Hid (Blk u2 u1.heap.size #[.bool false, .bool false]) := by subst hwA; exact Blk.new _ _ _
                clear hwA
                have BXN : Hid (wp.heap.size ≤ u1.heap.size) := Lib.hid T.out.size
                obtain ⟨BX, hBX⟩ : ∃ N, u1.heap.size = N := ⟨_, rfl⟩
                have hbd := Lib.hid (hb.mono T.out.size)
                replace T := Lib.hid (bThen T.out hb)
                clear hb
                rw [hBX] at KBX BXN  ⊢
                clear hBX
                refine ⟨hbd.out, ?_⟩
                clear hbd
                refine WT_one 12 rfl (by kernel_rfl) ?_
                unfold stepT
                go_wp2_with fail
                refine (HC3.out _).mono ?_
                rintro e u3 ⟨rfl, hb⟩
                replace KBX := Lib.hid (KBX.out.to hb)
                have hbd := Lib.hid (hb.mono T.out.size)
                replace T := Lib.hid (bThen T.out hb)
                clear hb
                go_wp2_with fail
                refine ⟨hbd.out, ?_⟩
                clear hbd
                refine WT_yes 13 rfl (by kernel_rfl) (fun _ _ _ _ _ h => h) (by rfl) ?_; apply Exists.intro; refine ⟨fun w1 hb1 => ?_, ?_⟩; (focus ((skip; have hb1 := Lib.hid hb1; go_simp); (try (go_bits; try go_simp)); (try (rw [if_pos (by omega)]; try go_simp)); (first | done | (fail) | (with_reducible rfl) | exact rfl)))
                simp only [Act.put, List.setIfInBounds_toArray, List.set_cons_zero, List.set_cons_succ]
                refine WT_yes 14 rfl (by kernel_rfl) (fun _ _ _ _ _ h => h) (by rfl) ?_; apply Exists.intro; refine ⟨fun w1 hb1 => ?_, ?_⟩; (focus ((skip; have hb1 := Lib.hid hb1; go_simp); (try (go_bits; try go_simp)); (try (rw [if_pos (by omega)]; try go_simp)); (first | done | (fail) | (with_reducible rfl) | exact rfl)))
                simp only [Act.put, List.setIfInBounds_toArray, List.set_cons_zero, List.set_cons_succ]
                refine WT_yes 15 rfl (by kernel_rfl) (fun _ _ _ _ _ h => h) (by rfl) ?_; apply Exists.intro; refine ⟨fun w1 hb1 => ?_, ?_⟩; (focus (((obtain ⟨-, k9, -⟩ := K9.out.to (T.out.trans hb1)); have hb1 := Lib.hid hb1; go_simp); (try (go_bits; try go_simp)); (try (rw [if_pos (by omega)]; try go_simp)); (first | done | (fail) | (with_reducible rfl) | exact rfl)))
                simp only [Act.put, List.setIfInBounds_toArray, List.set_cons_zero, List.set_cons_succ]
                refine WT_yes 16 rfl (by kernel_rfl) (fun _ _ _ _ _ h => h) (by rfl) ?_; apply Exists.intro; refine ⟨fun w1 hb1 => ?_, ?_⟩; (focus (((obtain ⟨-, kbz, -⟩ := KBZ.out.to (T.out.trans hb1)); have hb1 := Lib.hid hb1; go_simp); (try (go_bits; try go_simp)); (try (rw [if_pos (by omega)]; try go_simp)); (first | done | (fail) | (with_reducible rfl) | exact rfl)))
                simp only [Act.put, List.setIfInBounds_toArray, List.set_cons_zero, List.set_cons_succ]
                refine WT_one 17 rfl (by kernel_rfl) ?_
                unfold stepT
                go_wp2_with fail
                refine (HC4.out _).mono ?_
                rintro e u4 ⟨rfl, hb⟩
                replace KBX := Lib.hid (KBX.out.to hb)
                have hbd := Lib.hid (hb.mono T.out.size)
                replace T := Lib.hid (bThen T.out hb)
                clear hb
                go_wp2_with fail
                refine ⟨hbd.out, ?_⟩
                clear hbd
                refine WT_yes 18 rfl (by kernel_rfl) (fun _ _ _ _ _ h => h) (by rfl) ?_; apply Exists.intro; refine ⟨fun w1 hb1 => ?_, ?_⟩; (focus ((skip; have hb1 := Lib.hid hb1; go_simp); (try (go_bits; try go_simp)); (try (rw [if_pos (by omega)]; try go_simp)); (first | done | (fail) | (with_reducible rfl) | exact rfl)))
                simp only [Act.put, List.setIfInBounds_toArray, List.set_cons_zero, List.set_cons_succ]
                refine WT_yes 19 rfl (by kernel_rfl) (fun _ _ _ _ _ h => h) (by rfl) ?_; apply Exists.intro; refine ⟨fun w1 hb1 => ?_, ?_⟩; (focus ((skip; have hb1 := Lib.hid hb1; go_simp); (try (go_bits; try go_simp)); (try (rw [if_pos (by omega)]; try go_simp)); (first | done | (fail) | (with_reducible rfl) | exact rfl)))
                simp only [Act.put, List.setIfInBounds_toArray, List.set_cons_zero, List.set_cons_succ]
                refine WT_yes 20 rfl (by kernel_rfl) (fun _ _ _ _ _ h => h) (by rfl) ⟨.agg #[.bool false, .bool (decide (c4 ≤ 0))], fun w1 hb1 => (by go_simp), ?_⟩
                simp only [Act.put, List.setIfInBounds_toArray, List.set_cons_zero, List.set_cons_succ]
                refine WT_one 22 rfl (by kernel_rfl) ?_
                unfold stepT
                obtain ⟨-, kx, fx⟩ := KBX.out
                go_wp2_with fail
                clear kx fx
                obtain ⟨u5, hu⟩ : ∃ u, (u4.setCell ⟨BX, 0, none⟩ (.bool false)).setCell ⟨BX, 1, none⟩ (.bool (decide (c4 ≤ 0))) = u := ⟨_, rfl⟩
                have hb : Below wp.heap.size u4 u5 := by rw [← hu]; exact ((Below.refl _ _).setCell (p := ⟨BX, 0, none⟩) BXN.out _).setCell (p := ⟨BX, 1, none⟩) BXN.out _
                replace KBX := Lib.hid ((KBX.out.set 0 (.bool false)).set 1 (.bool (decide (c4 ≤ 0))))
                rw [hu] at KBX ⊢
                clear hu
                replace T := Lib.hid (T.out.trans hb)
                refine ⟨hb, ?_⟩
                clear hb
                refine WT_done (by kernel_rfl) ?_
                go_wp2_with fail
                go_meet
                case rel => exact ⟨BX, rfl, Lib.hid (by rw [HI1.out, HI2.out, G1.out, G3.out]; exact KBX.out), T⟩
            · unfold stepT
              go_wp2_with fail
              obtain ⟨u1, hwA⟩ : ∃ wA, wd.alloc (.cells #[.bool false, .bool false] 40) = wA := ⟨_, rfl⟩
              rw [hwA]
              have hb : Below wd.heap.size wd u1 := by subst hwA; exact bAlloc (bSelf _) _
              have KBX : Hid (Blk u1 wd.heap.size #[.bool false, .bool false]) := by subst hwA; exact Blk.new _ _ _
              clear hwA
              have BXN : Hid (wp.heap.size ≤ wd.heap.size) := Lib.hid T.out.size
              obtain ⟨BX, hBX⟩ : ∃ N, wd.heap.size = N := ⟨_, rfl⟩
              have hbd := Lib.hid (hb.mono T.out.size)
              replace T := Lib.hid (bThen T.out hb)
              clear hb
              rw [hBX] at KBX BXN  ⊢
              clear hBX
              refine ⟨hbd.out, ?_⟩
              clear hbd
              refine WT_one 2 rfl (by kernel_rfl) ?_
              unfold stepT
              go_wp2_with fail
              refine (HC1.out _).mono ?_
              rintro e u2 ⟨rfl, hb⟩
              replace KBX := Lib.hid (KBX.out.to hb)
              have hbd := Lib.hid (hb.mono T.out.size)
              replace T := Lib.hid (bThen T.out hb)
              clear hb
              go_wp2_with fail
              refine ⟨hbd.out, ?_⟩
              clear hbd
              refine WT_yes 3 rfl (by kernel_rfl) (fun _ _ _ _ _ h => h) (by rfl) ?_; apply Exists.intro; refine ⟨fun w1 hb1 => ?_, ?_⟩; (focus ((skip; have hb1 := Lib.hid hb1; go_simp); (try (go_bits; try go_simp)); (try (rw [if_pos (by omega)]; try go_simp)); (first | done | (fail) | (with_reducible rfl) | exact rfl)))
              simp only [Act.put, List.setIfInBounds_toArray, List.set_cons_zero, List.set_cons_succ]
              refine WT_yes 4 rfl (by kernel_rfl) (fun _ _ _ _ _ h => h) (by rfl) ?_; apply Exists.intro; refine ⟨fun w1 hb1 => ?_, ?_⟩; (focus ((skip; have hb1 := Lib.hid hb1; go_simp); (try (go_bits; try go_simp)); (try (rw [if_pos (by omega)]; try go_simp)); (first | done | (fail) | (with_reducible rfl) | exact rfl)))
              simp only [Act.put, List.setIfInBounds_toArray, List.set_cons_zero, List.set_cons_succ]
              refine WT_no 5 rfl (by kernel_rfl) (fun _ _ _ _ _ h => h) (by rfl) ?_
              simp only [Act.put, List.setIfInBounds_toArray, List.set_cons_zero, List.set_cons_succ]
              refine WT_no 6 rfl (by kernel_rfl) (fun _ _ _ _ _ h => h) (by rfl) ?_
              simp only [Act.put, List.setIfInBounds_toArray, List.set_cons_zero, List.set_cons_succ]
              refine WT_no 7 rfl (by kernel_rfl) (fun _ _ _ _ _ h => h) (by rfl) ?_
              simp only [Act.put, List.setIfInBounds_toArray, List.set_cons_zero, List.set_cons_succ]
              refine WT_no 8 rfl (by kernel_rfl) (fun _ _ _ _ _ h => h) (by rfl) ?_
              simp only [Act.put, List.setIfInBounds_toArray, List.set_cons_zero, List.set_cons_succ]
              refine WT_yes 9 rfl (by kernel_rfl) (fun _ _ _ _ _ h => h) (by rfl) ?_; apply Exists.intro; refine ⟨fun w1 hb1 => ?_, ?_⟩; (focus ((skip; have hb1 := Lib.hid hb1; go_simp); (try (go_bits; try go_simp)); (try (rw [if_pos (by omega)]; try go_simp)); (first | done | (fail) | (with_reducible rfl) | exact rfl)))
              simp only [Act.put, List.setIfInBounds_toArray, List.set_cons_zero, List.set_cons_succ]
              refine WT_one 12 rfl (by kernel_rfl) ?_
              unfold stepT
              go_wp2_with fail
              refine (HC3.out _).mono ?_
              rintro e u3 ⟨rfl, hb⟩
              replace KBX := Lib.hid (KBX.out.to hb)
              have hbd := Lib.hid (hb.mono T.out.size)
              replace T := Lib.hid (bThen T.out hb)
              clear hb
              go_wp2_with fail
              refine ⟨hbd.out, ?_⟩
              clear hbd
              refine WT_yes 13 rfl (by kernel_rfl) (fun _ _ _ _ _ h => h) (by rfl) ?_; apply Exists.intro; refine ⟨fun w1 hb1 => ?_, ?_⟩; (focus ((skip; have hb1 := Lib.hid hb1; go_simp); (try (go_bits; try go_simp)); (try (rw [if_pos (by omega)]; try go_simp)); (first | done | (fail) | (with_reducible rfl) | exact rfl)))
              simp only [Act.put, List.setIfInBounds_toArray, List.set_cons_zero, List.set_cons_succ]
              refine WT_yes 14 rfl (by kernel_rfl) (fun _ _ _ _ _ h => h) (by rfl) ?_; apply Exists.intro; refine ⟨fun w1 hb1 => ?_, ?_⟩; (focus ((skip; have hb1 := Lib.hid hb1; go_simp); (try (go_bits; try go_simp)); (try (rw [if_pos (by omega)]; try go_simp)); (first | done | (fail) | (with_reducible rfl) | exact rfl)))
              simp only [Act.put, List.setIfInBounds_toArray, List.set_cons_zero, List.set_cons_succ]
              refine WT_yes 15 rfl (by kernel_rfl) (fun _ _ _ _ _ h => h) (by rfl) ?_; apply Exists.intro; refine ⟨fun w1 hb1 => ?_, ?_⟩; (focus (((obtain ⟨-, k9, -⟩ := K9.out.to (T.out.trans hb1)); have hb1 := Lib.hid hb1; go_simp); (try (go_bits; try go_simp)); (try (rw [if_pos (by omega)]; try go_simp)); (first | done | (fail) | (with_reducible rfl) | exact rfl)))
              simp only [Act.put, List.setIfInBounds_toArray, List.set_cons_zero, List.set_cons_succ]
              refine WT_yes 16 rfl (by kernel_rfl) (fun _ _ _ _ _ h => h) (by rfl) ?_; apply Exists.intro; refine ⟨fun w1 hb1 => ?_, ?_⟩; (focus (((obtain ⟨-, kbz, -⟩ := KBZ.out.to (T.out.trans hb1)); have hb1 := Lib.hid hb1; go_simp); (try (go_bits; try go_simp)); (try (rw [if_pos (by omega)]; try go_simp)); (first | done | (fail) | (with_reducible rfl) | exact rfl)))
              simp only [Act.put, List.setIfInBounds_toArray, List.set_cons_zero, List.set_cons_succ]
              refine WT_one 17 rfl (by kernel_rfl) ?_
              unfold stepT
              go_wp2_with fail
              refine (HC4.out _).mono ?_
              rintro e u4 ⟨rfl, hb⟩
              replace KBX := Lib.hid (KBX.out.to hb)
              have hbd := Lib.hid (hb.mono T.out.size)
              replace T := Lib.hid (bThen T.out hb)
              clear hb
              go_wp2_with fail
              refine ⟨hbd.out, ?_⟩
              clear hbd
              refine WT_yes 18 rfl (by kernel_rfl) (fun _ _ _ _ _ h => h) (by rfl) ?_; apply Exists.intro; refine ⟨fun w1 hb1 => ?_, ?_⟩; (focus ((skip; have hb1 := Lib.hid hb1; go_simp); (try (go_bits; try go_simp)); (try (rw [if_pos (by omega)]; try go_simp)); (first | done | (fail) | (with_reducible rfl) | exact rfl)))
              simp only [Act.put, List.setIfInBounds_toArray, List.set_cons_zero, List.set_cons_succ]
              refine WT_yes 19 rfl (by kernel_rfl) (fun _ _ _ _ _ h => h) (by rfl) ?_; apply Exists.intro; refine ⟨fun w1 hb1 => ?_, ?_⟩; (focus ((skip; have hb1 := Lib.hid hb1; go_simp); (try (go_bits; try go_simp)); (try (rw [if_pos (by omega)]; try go_simp)); (first | done | (fail) | (with_reducible rfl) | exact rfl)))
              simp only [Act.put, List.setIfInBounds_toArray, List.set_cons_zero, List.set_cons_succ]
              refine WT_yes 20 rfl (by kernel_rfl) (fun _ _ _ _ _ h => h) (by rfl) ⟨.agg #[.bool false, .bool (decide (c4 ≤ 0))], fun w1 hb1 => (by go_simp), ?_⟩
              simp only [Act.put, List.setIfInBounds_toArray, List.set_cons_zero, List.set_cons_succ]
              refine WT_one 22 rfl (by kernel_rfl) ?_
              unfold stepT
              obtain ⟨-, kx, fx⟩ := KBX.out
              go_wp2_with fail
              clear kx fx
              obtain ⟨u5, hu⟩ : ∃ u, (u4.setCell ⟨BX, 0, none⟩ (.bool false)).setCell ⟨BX, 1, none⟩ (.bool (decide (c4 ≤ 0))) = u := ⟨_, rfl⟩
              have hb : Below wp.heap.size u4 u5 := by rw [← hu]; exact ((Below.refl _ _).setCell (p := ⟨BX, 0, none⟩) BXN.out _).setCell (p := ⟨BX, 1, none⟩) BXN.out _
              replace KBX := Lib.hid ((KBX.out.set 0 (.bool false)).set 1 (.bool (decide (c4 ≤ 0))))
              rw [hu] at KBX ⊢
              clear hu
              replace T := Lib.hid (T.out.trans hb)
              refine ⟨hb, ?_⟩
              clear hb
              refine WT_done (by kernel_rfl) ?_
              go_wp2_with fail
              go_meet
              case rel => exact ⟨BX, rfl, Lib.hid (by rw [HI1.out, HI2.out, G1.out, G3.out]; exact KBX.out), T⟩
        · cases g3 : decide (0 ≤ c3)
          · have G1 := Lib.hid g1
            have G3 := Lib.hid g3
            refine wp_region_tree (by kernel_rfl) (fun wd hwd => ?_)
            have T := Lib.hid hwd
            clear hwd
            refine WT_yes 0 rfl (by kernel_rfl) (fun _ _ _ _ _ h => h) (by rfl) ?_; apply Exists.intro; refine ⟨fun w1 hb1 => ?_, ?_⟩; (focus (((obtain ⟨-, k7, -⟩ := K7.out.to (T.out.trans hb1)); have hb1 := Lib.hid hb1; go_simp); (try (go_bits; try go_simp)); (try (rw [if_pos (by omega)]; try go_simp)); (first | done | (fail) | (with_reducible rfl) | exact rfl)))
            simp only [Act.put, List.setIfInBounds_toArray, List.set_cons_zero, List.set_cons_succ]
            refine WT_yes 1 rfl (by kernel_rfl) (fun _ _ _ _ _ h => h) (by rfl) ?_; apply Exists.intro; refine ⟨fun w1 hb1 => ?_, ?_⟩; (focus (((obtain ⟨-, kba, -⟩ := KBA.out.to (T.out.trans hb1)); have hb1 := Lib.hid hb1; go_simp); (try (go_bits; try go_simp)); (try (rw [if_pos (by omega)]; try go_simp)); (first | done | (fail) | (with_reducible rfl) | exact rfl)))
            simp only [Act.put, List.setIfInBounds_toArray, List.set_cons_zero, List.set_cons_succ]
            refine WT_yes 10 rfl (by kernel_rfl) (fun _ _ _ _ _ h => h) (by rfl) ?_; apply Exists.intro; refine ⟨fun w1 hb1 => ?_, ?_⟩; (focus (((obtain ⟨-, k9, -⟩ := K9.out.to (T.out.trans hb1)); have hb1 := Lib.hid hb1; go_simp); (try (go_bits; try go_simp)); (try (rw [if_pos (by omega)]; try go_simp)); (first | done | (fail) | (with_reducible rfl) | exact rfl)))
            simp only [Act.put, List.setIfInBounds_toArray, List.set_cons_zero, List.set_cons_succ]
            refine WT_yes 11 rfl (by kernel_rfl) (fun _ _ _ _ _ h => h) (by rfl) ?_; apply Exists.intro; refine ⟨fun w1 hb1 => ?_, ?_⟩; (focus (((obtain ⟨-, kba, -⟩ := KBA.out.to (T.out.trans hb1)); have hb1 := Lib.hid hb1; go_simp); (try (go_bits; try go_simp)); (try (rw [if_pos (by omega)]; try go_simp)); (first | done | (fail) | (with_reducible rfl) | exact rfl)))
            simp only [Act.put, List.setIfInBounds_toArray, List.set_cons_zero, List.set_cons_succ]
            refine WT_two 2 21 rfl rfl (by kernel_rfl) ?_ ?_
            · unfold stepT
              go_wp2_with fail
              refine (HC1.out _).mono ?_
              rintro e u1 ⟨rfl, hb⟩
              have hbd := Lib.hid (hb.mono T.out.size)
              replace T := Lib.hid (bThen T.out hb)
              clear hb
              go_wp2_with fail
              refine ⟨hbd.out, ?_⟩
              clear hbd
              refine WT_yes 3 rfl (by kernel_rfl) (fun _ _ _ _ _ h => h) (by rfl) ?_; apply Exists.intro; refine ⟨fun w1 hb1 => ?_, ?_⟩; (focus ((skip; have hb1 := Lib.hid hb1; go_simp); (try (go_bits; try go_simp)); (try (rw [if_pos (by omega)]; try go_simp)); (first | done | (fail) | (with_reducible rfl) | exact rfl)))
              simp only [Act.put, List.setIfInBounds_toArray, List.set_cons_zero, List.set_cons_succ]
              refine WT_yes 4 rfl (by kernel_rfl) (fun _ _ _ _ _ h => h) (by rfl) ?_; apply Exists.intro; refine ⟨fun w1 hb1 => ?_, ?_⟩; (focus ((skip; have hb1 := Lib.hid hb1; go_simp); (try (go_bits; try go_simp)); (try (rw [if_pos (by omega)]; try go_simp)); (first | done | (fail) | (with_reducible rfl) | exact rfl)))
              simp only [Act.put, List.setIfInBounds_toArray, List.set_cons_zero, List.set_cons_succ]
              refine WT_yes 5 rfl (by kernel_rfl) (fun _ _ _ _ _ h => h) (by rfl) ?_; apply Exists.intro; refine ⟨fun w1 hb1 => ?_, ?_⟩; (focus (((obtain ⟨-, k7, -⟩ := K7.out.to (T.out.trans hb1)); have hb1 := Lib.hid hb1; go_simp); (try (go_bits; try go_simp)); (try (rw [if_pos (by omega)]; try go_simp)); (first | done | (fail) | (with_reducible rfl) | exact rfl)))
              simp only [Act.put, List.setIfInBounds_toArray, List.set_cons_zero, List.set_cons_succ]
              refine WT_yes 6 rfl (by kernel_rfl) (fun _ _ _ _ _ h => h) (by rfl) ?_; apply Exists.intro; refine ⟨fun w1 hb1 => ?_, ?_⟩; (focus (((obtain ⟨-, kbz, -⟩ := KBZ.out.to (T.out.trans hb1)); have hb1 := Lib.hid hb1; go_simp); (try (go_bits; try go_simp)); (try (rw [if_pos (by omega)]; try go_simp)); (first | done | (fail) | (with_reducible rfl) | exact rfl)))
              simp only [Act.put, List.setIfInBounds_toArray, List.set_cons_zero, List.set_cons_succ]
              refine WT_two 7 21 rfl rfl (by kernel_rfl) ?_ ?_
              · unfold stepT
                go_wp2_with fail
                refine (HC2.out _).mono ?_
                rintro e u2 ⟨rfl, hb⟩
                have hbd := Lib.hid (hb.mono T.out.size)
                replace T := Lib.hid (bThen T.out hb)
                clear hb
                go_wp2_with fail
                refine ⟨hbd.out, ?_⟩
                clear hbd
                refine WT_yes 8 rfl (by kernel_rfl) (fun _ _ _ _ _ h => h) (by rfl) ?_; apply Exists.intro; refine ⟨fun w1 hb1 => ?_, ?_⟩; (focus ((skip; have hb1 := Lib.hid hb1; go_simp); (try (go_bits; try go_simp)); (try (rw [if_pos (by omega)]; try go_simp)); (first | done | (fail) | (with_reducible rfl) | exact rfl)))
                simp only [Act.put, List.setIfInBounds_toArray, List.set_cons_zero, List.set_cons_succ]
                refine WT_yes 9 rfl (by kernel_rfl) (fun _ _ _ _ _ h => h) (by rfl) ?_; apply Exists.intro; refine ⟨fun w1 hb1 => ?_, ?_⟩; (focus ((skip; have hb1 := Lib.hid hb1; go_simp); (try (go_bits; try go_simp)); (try (rw [if_pos (by omega)]; try go_simp)); (first | done | (fail) | (with_reducible rfl) | exact rfl)))
                simp only [Act.put, List.setIfInBounds_toArray, List.set_cons_zero, List.set_cons_succ]
                refine WT_two 12 21 rfl rfl (by kernel_rfl) ?_ ?_
                · unfold stepT
                  go_wp2_with fail
                  refine (HC3.out _).mono ?_
                  rintro e u3 ⟨rfl, hb⟩
                  have hbd := Lib.hid (hb.mono T.out.size)
                  replace T := Lib.hid (bThen T.out hb)
                  clear hb
                  go_wp2_with fail
                  refine ⟨hbd.out, ?_⟩
                  clear hbd
                  refine WT_yes 13 rfl (by kernel_rfl) (fun _ _ _ _ _ h => h) (by rfl) ?_; apply Exists.intro; refine ⟨fun w1 hb1 => ?_, ?_⟩; (focus ((skip; have hb1 := Lib.hid hb1; go_simp); (try (go_bits; try go_simp)); (try (rw [if_pos (by omega)]; try go_simp)); (first | done | (fail) | (with_reducible rfl) | exact rfl)))
                  simp only [Act.put, List.setIfInBounds_toArray, List.set_cons_zero, List.set_cons_succ]
                  refine WT_yes 14 rfl (by kernel_rfl) (fun _ _ _ _ _ h => h) (by rfl) ?_; apply Exists.intro; refine ⟨fun w1 hb1 => ?_, ?_⟩; (focus ((skip; have hb1 := Lib.hid hb1; go_simp); (try (go_bits; try go_simp)); (try (rw [if_pos (by omega)]; try go_simp)); (first | done | (fail) | (with_reducible rfl) | exact rfl)))
                  simp only [Act.put, List.setIfInBounds_toArray, List.set_cons_zero, List.set_cons_succ]
                  refine WT_no 15 rfl (by kernel_rfl) (fun _ _ _ _ _ h => h) (by rfl) ?_
                  simp only [Act.put, List.setIfInBounds_toArray, List.set_cons_zero, List.set_cons_succ]
                  refine WT_no 16 rfl (by kernel_rfl) (fun _ _ _ _ _ h => h) (by rfl) ?_
                  simp only [Act.put, List.setIfInBounds_toArray, List.set_cons_zero, List.set_cons_succ]
                  refine WT_no 17 rfl (by kernel_rfl) (fun _ _ _ _ _ h => h) (by rfl) ?_
                  simp only [Act.put, List.setIfInBounds_toArray, List.set_cons_zero, List.set_cons_succ]
                  refine WT_no 18 rfl (by kernel_rfl) (fun _ _ _ _ _ h => h) (by rfl) ?_
                  simp only [Act.put, List.setIfInBounds_toArray, List.set_cons_zero, List.set_cons_succ]
                  refine WT_yes 19 rfl (by kernel_rfl) (fun _ _ _ _ _ h => h) (by rfl) ?_; apply Exists.intro; refine ⟨fun w1 hb1 => ?_, ?_⟩; (focus ((skip; have hb1 := Lib.hid hb1; go_simp); (try (go_bits; try go_simp)); (try (rw [if_pos (by omega)]; try go_simp)); (first | done | (fail) | (with_reducible rfl) | exact rfl)))
                  simp only [Act.put, List.setIfInBounds_toArray, List.set_cons_zero, List.set_cons_succ]
                  refine WT_yes 20 rfl (by kernel_rfl) (fun _ _ _ _ _ h => h) (by rfl) ⟨.agg #[.bool (decide (c2 ≤ 0)), .bool false], fun w1 hb1 => (by go_simp), ?_⟩
                  simp only [Act.put, List.setIfInBounds_toArray, List.set_cons_zero, List.set_cons_succ]
                  refine WT_one 21 rfl (by kernel_rfl) ?_
                  unfold stepT
                  go_wp2_with fail
                  obtain ⟨u4, hwA⟩ : ∃ wA, u3.alloc (.cells #[.bool false, .bool false] 40) = wA := ⟨_, rfl⟩
                  rw [hwA]
                  have hb : Below u3.heap.size u3 u4 := by subst hwA; exact bAlloc (bSelf _) _
                  have KBX : Hid (Blk u4 u3.heap.size #[.bool false, .bool false]) := by subst hwA; exact Blk.new _ _ _
                  clear hwA
                  have BXN : Hid (wp.heap.size ≤ u3.heap.size) := Lib.hid T.out.size
                  obtain ⟨BX, hBX⟩ : ∃ N, u3.heap.size = N := ⟨_, rfl⟩
                  have hbd := Lib.hid (hb.mono T.out.size)
                  replace T := Lib.hid (bThen T.out hb)
                  clear hb
                  rw [hBX] at KBX BXN  ⊢
                  clear hBX
                  refine ⟨hbd.out, ?_⟩
                  clear hbd
                  refine WT_one 22 rfl (by kernel_rfl) ?_
                  unfold stepT
                  obtain ⟨-, kx, fx⟩ := KBX.out
                  go_wp2_with fail
                  clear kx fx
                  obtain ⟨u5, hu⟩ : ∃ u, (u4.setCell ⟨BX, 0, none⟩ (.bool (decide (c2 ≤ 0)))).setCell ⟨BX, 1, none⟩ (.bool false) = u := ⟨_, rfl⟩
                  have hb : Below wp.heap.size u4 u5 := by rw [← hu]; exact ((Below.refl _ _).setCell (p := ⟨BX, 0, none⟩) BXN.out _).setCell (p := ⟨BX, 1, none⟩) BXN.out _
                  replace KBX := Lib.hid ((KBX.out.set 0 (.bool (decide (c2 ≤ 0)))).set 1 (.bool false))
                  rw [hu] at KBX ⊢
                  clear hu
                  replace T := Lib.hid (T.out.trans hb)
                  refine ⟨hb, ?_⟩
                  clear hb
                  refine WT_done (by kernel_rfl) ?_
                  go_wp2_with fail
                  go_meet
                  case rel => exact ⟨BX, rfl, Lib.hid (by rw [HI1.out, HI2.out, G1.out, G3.out]; exact KBX.out), T⟩
                · unfold stepT
                  go_wp2_with fail
                  obtain ⟨u3, hwA⟩ : ∃ wA, u2.alloc (.cells #[.bool false, .bool false] 40) = wA := ⟨_, rfl⟩
                  rw [hwA]
                  have hb : Below u2.heap.size u2 u3 := by subst hwA; exact bAlloc (bSelf _) _
                  have KBX : Hid (Blk u3 u2.heap.size #[.bool false, .bool false]) := by subst hwA; exact Blk.new _ _ _
                  clear hwA
                  have BXN : Hid (wp.heap.size ≤ u2.heap.size) := Lib.hid T.out.size
                  obtain ⟨BX, hBX⟩ : ∃ N, u2.heap.size = N := ⟨_, rfl⟩
                  have hbd := Lib.hid (hb.mono T.out.size)
                  replace T := Lib.hid (bThen T.out hb)
                  clear hb
                  rw [hBX] at KBX BXN  ⊢
                  clear hBX
                  refine ⟨hbd.out, ?_⟩
                  clear hbd
                  refine WT_one 12 rfl (by kernel_rfl) ?_
                  unfold stepT
                  go_wp2_with fail
                  refine (HC3.out _).mono ?_
                  rintro e u4 ⟨rfl, hb⟩
                  replace KBX := Lib.hid (KBX.out.to hb)
                  have hbd := Lib.hid (hb.mono T.out.size)
                  replace T := Lib.hid (bThen T.out hb)
                  clear hb
                  go_wp2_with fail
                  refine ⟨hbd.out, ?_⟩
                  clear hbd
                  refine WT_yes 13 rfl (by kernel_rfl) (fun _ _ _ _ _ h => h) (by rfl) ?_; apply Exists.intro; refine ⟨fun w1 hb1 => ?_, ?_⟩; (focus ((skip; have hb1 := Lib.hid hb1; go_simp); (try (go_bits; try go_simp)); (try (rw [if_pos (by omega)]; try go_simp)); (first | done | (fail) | (with_reducible rfl) | exact rfl)))
                  simp only [Act.put, List.setIfInBounds_toArray, List.set_cons_zero, List.set_cons_succ]
                  refine WT_yes 14 rfl (by kernel_rfl) (fun _ _ _ _ _ h => h) (by rfl) ?_; apply Exists.intro; refine ⟨fun w1 hb1 => ?_, ?_⟩; (focus ((skip; have hb1 := Lib.hid hb1; go_simp); (try (go_bits; try go_simp)); (try (rw [if_pos (by omega)]; try go_simp)); (first | done | (fail) | (with_reducible rfl) | exact rfl)))
                  simp only [Act.put, List.setIfInBounds_toArray, List.set_cons_zero, List.set_cons_succ]
                  refine WT_no 15 rfl (by kernel_rfl) (fun _ _ _ _ _ h => h) (by rfl) ?_
                  simp only [Act.put, List.setIfInBounds_toArray, List.set_cons_zero, List.set_cons_succ]
                  refine WT_no 16 rfl (by kernel_rfl) (fun _ _ _ _ _ h => h) (by rfl) ?_
                  simp only [Act.put, List.setIfInBounds_toArray, List.set_cons_zero, List.set_cons_succ]
                  refine WT_no 17 rfl (by kernel_rfl) (fun _ _ _ _ _ h => h) (by rfl) ?_
                  simp only [Act.put, List.setIfInBounds_toArray, List.set_cons_zero, List.set_cons_succ]
                  refine WT_no 18 rfl (by kernel_rfl) (fun _ _ _ _ _ h => h) (by rfl) ?_
                  simp only [Act.put, List.setIfInBounds_toArray, List.set_cons_zero, List.set_cons_succ]
                  refine WT_yes 19 rfl (by kernel_rfl) (fun _ _ _ _ _ h => h) (by rfl) ?_; apply Exists.intro; refine ⟨fun w1 hb1 => ?_, ?_⟩; (focus ((skip; have hb1 := Lib.hid hb1; go_simp); (try (go_bits; try go_simp)); (try (rw [if_pos (by omega)]; try go_simp)); (first | done | (fail) | (with_reducible rfl) | exact rfl)))
                  simp only [Act.put, List.setIfInBounds_toArray, List.set_cons_zero, List.set_cons_succ]
                  refine WT_yes 20 rfl (by kernel_rfl) (fun _ _ _ _ _ h => h) (by rfl) ⟨.agg #[.bool (decide (c2 ≤ 0)), .bool false], fun w1 hb1 => (by go_simp), ?_⟩
                  simp only [Act.put, List.setIfInBounds_toArray, List.set_cons_zero, List.set_cons_succ]
                  refine WT_one 22 rfl (by kernel_rfl) ?_
                  unfold stepT
                  obtain ⟨-, kx, fx⟩ := KBX.out
                  go_wp2_with fail
                  clear kx fx
                  obtain ⟨u5, hu⟩ : ∃ u, (u4.setCell ⟨BX, 0, none⟩ (.bool (decide (c2 ≤ 0)))).setCell ⟨BX, 1, none⟩ (.bool false) = u := ⟨_, rfl⟩
                  have hb : Below wp.heap.size u4 u5 := by rw [← hu]; exact ((Below.refl _ _).setCell (p := ⟨BX, 0, none⟩) BXN.out _).setCell (p := ⟨BX, 1, none⟩) BXN.out _
                  replace KBX := Lib.hid ((KBX.out.set 0 (.bool (decide (c2 ≤ 0)))).set 1 (.bool false))
                  rw [hu] at KBX ⊢
                  clear hu
                  replace T := Lib.hid (T.out.trans hb)
                  refine ⟨hb, ?_⟩
                  clear hb
                  refine WT_done (by kernel_rfl) ?_
                  go_wp2_with fail
                  go_meet
                  case rel => exact ⟨BX, rfl, Lib.hid (by rw [HI1.out, HI2.out, G1.out, G3.out]; exact KBX.out), T⟩
              · unfold stepT
                go_wp2_with fail
                obtain ⟨u2, hwA⟩ : ∃ wA, u1.alloc (.cells #[.bool false, .bool false] 40) = wA := ⟨_, rfl⟩
                rw [hwA]
                have hb : Below u1.heap.size u1 u2 := by subst hwA; exact bAlloc (bSelf _) _
                have KBX : Hid (Blk u2 u1.heap.size #[.bool false, .bool false]) := by subst hwA; exact Blk.new _ _ _
                clear hwA
                have BXN : Hid (wp.heap.size ≤ u1.heap.size) := Lib.hid T.out.size
                obtain ⟨BX, hBX⟩ : ∃ N, u1.heap.size = N := ⟨_, rfl⟩
                have hbd := Lib.hid (hb.mono T.out.size)
                replace T := Lib.hid (bThen T.out hb)
                clear hb
                rw [hBX] at KBX BXN  ⊢
                clear hBX
                refine ⟨hbd.out, ?_⟩
                clear hbd
                refine WT_one 7 rfl (by kernel_rfl) ?_
                unfold stepT
                go_wp2_with fail
                refine (HC2.out _).mono ?_
                rintro e u3 ⟨rfl, hb⟩
                replace KBX := Lib.hid (KBX.out.to hb)
                have hbd := Lib.hid (hb.mono T.out.size)
                replace T := Lib.hid (bThen T.out hb)
                clear hb
                go_wp2_with fail
                refine ⟨hbd.out, ?_⟩
                clear hbd
                refine WT_yes 8 rfl (by kernel_rfl) (fun _ _ _ _ _ h => h) (by rfl) ?_; apply Exists.intro; refine ⟨fun w1 hb1 => ?_, ?_⟩; (focus ((skip; have hb1 := Lib.hid hb1; go_simp); (try (go_bits; try go_simp)); (try (rw [if_pos (by omega)]; try go_simp)); (first | done | (fail) | (with_reducible rfl) | exact rfl)))
                simp only [Act.put, List.setIfInBounds_toArray, List.set_cons_zero, List.set_cons_succ]
                refine WT_yes 9 rfl (by kernel_rfl) (fun _ _ _ _ _ h => h) (by rfl) ?_; apply Exists.intro; refine ⟨fun w1 hb1 => ?_, ?_⟩; (focus ((skip; have hb1 := Lib.hid hb1; go_simp); (try (go_bits; try go_simp)); (try (rw [if_pos (by omega)]; try go_simp)); (first | done | (fail) | (with_reducible rfl) | exact rfl)))
                simp only [Act.put, List.setIfInBounds_toArray, List.set_cons_zero, List.set_cons_succ]
                refine WT_one 12 rfl (by kernel_rfl) ?_
                unfold stepT
                go_wp2_with fail
                refine (HC3.out _).mono ?_
                rintro e u4 ⟨rfl, hb⟩
                replace KBX := Lib.hid (KBX.out.to hb)
                have hbd := Lib.hid (hb.mono T.out.size)
                replace T := Lib.hid (bThen T.out hb)
                clear hb
                go_wp2_with fail
                refine ⟨hbd.out, ?_⟩
                clear hbd
                refine WT_yes 13 rfl (by kernel_rfl) (fun _ _ _ _ _ h => h) (by rfl) ?_; apply Exists.intro; refine ⟨fun w1 hb1 => ?_, ?_⟩; (focus ((skip; have hb1 := Lib.hid hb1; go_simp); (try (go_bits; try go_simp)); (try (rw [if_pos (by omega)]; try go_simp)); (first | done | (fail) | (with_reducible rfl) | exact rfl)))
                simp only [Act.put, List.setIfInBounds_toArray, List.set_cons_zero, List.set_cons_succ]
                refine WT_yes 14 rfl (by kernel_rfl) (fun _ _ _ _ _ h => h) (by rfl) ?_; apply Exists.intro; refine ⟨fun w1 hb1 => ?_, ?_⟩; (focus ((skip; have hb1 := Lib.hid hb1; go_simp); (try (go_bits; try go_simp)); (try (rw [if_pos (by omega)]; try go_simp)); (first | done | (fail) | (with_reducible rfl) | exact rfl)))
                simp only [Act.put, List.setIfInBounds_toArray, List.set_cons_zero, List.set_cons_succ]
                refine WT_no 15 rfl (by kernel_rfl) (fun _ _ _ _ _ h => h) (by rfl) ?_
                simp only [Act.put, List.setIfInBounds_toArray, List.set_cons_zero, List.set_cons_succ]
                refine WT_no 16 rfl (by kernel_rfl) (fun _ _ _ _ _ h => h) (by rfl) ?_
                simp only [Act.put, List.setIfInBounds_toArray, List.set_cons_zero, List.set_cons_succ]
                refine WT_no 17 rfl (by kernel_rfl) (fun _ _ _ _ _ h => h) (by rfl) ?_
                simp only [Act.put, List.setIfInBounds_toArray, List.set_cons_zero, List.set_cons_succ]
                refine WT_no 18 rfl (by kernel_rfl) (fun _ _ _ _ _ h => h) (by rfl) ?_
                simp only [Act.put, List.setIfInBounds_toArray, List.set_cons_zero, List.set_cons_succ]
                refine WT_yes 19 rfl (by kernel_rfl) (fun _ _ _ _ _ h => h) (by rfl) ?_; apply Exists.intro; refine ⟨fun w1 hb1 => ?_, ?_⟩; (focus ((skip; have hb1 := Lib.hid hb1; go_simp); (try (go_bits; try go_simp)); (try (rw [if_pos (by omega)]; try go_simp)); (first | done | (fail) | (with_reducible rfl) | exact rfl)))
                simp only [Act.put, List.setIfInBounds_toArray, List.set_cons_zero, List.set_cons_succ]
                refine WT_yes 20 rfl (by kernel_rfl) (fun _ _ _ _ _ h => h) (by rfl) ⟨.agg #[.bool (decide (c2 ≤ 0)), .bool false], fun w1 hb1 => (by go_simp), ?_⟩
                simp only [Act.put, List.setIfInBounds_toArray, List.set_cons_zero, List.set_cons_succ]
                refine WT_one 22 rfl (by kernel_rfl) ?_
                unfold stepT
                obtain ⟨-, kx, fx⟩ := KBX.out
                go_wp2_with fail
                clear kx fx
                obtain ⟨u5, hu⟩ : ∃ u, (u4.setCell ⟨BX, 0, none⟩ (.bool (decide (c2 ≤ 0)))).setCell ⟨BX, 1, none⟩ (.bool false) = u := ⟨_, rfl⟩
                have hb : Below wp.heap.size u4 u5 := by rw [← hu]; exact ((Below.refl _ _).setCell (p := ⟨BX, 0, none⟩) BXN.out _).setCell (p := ⟨BX, 1, none⟩) BXN.out _
                replace KBX := Lib.hid ((KBX.out.set 0 (.bool (decide (c2 ≤ 0)))).set 1 (.bool false))
                rw [hu] at KBX ⊢
                clear hu
                replace T := Lib.hid (T.out.trans hb)
                refine ⟨hb, ?_⟩
                clear hb
                refine WT_done (by kernel_rfl) ?_
                go_wp2_with fail
                go_meet
                case rel => exact ⟨BX, rfl, Lib.hid (by rw [HI1.out, HI2.out, G1.out, G3.out]; exact KBX.out), T⟩
            · unfold stepT
              go_wp2_with fail
              obtain ⟨u1, hwA⟩ : ∃ wA, wd.alloc (.cells #[.bool false, .bool false] 40) = wA := ⟨_, rfl⟩
              rw [hwA]
              have hb : Below wd.heap.size wd u1 := by subst hwA; exact bAlloc (bSelf _) _
              have KBX : Hid (Blk u1 wd.heap.size #[.bool false, .bool false]) := by subst hwA; exact Blk.new _ _ _
              clear hwA
              have BXN : Hid (wp.heap.size ≤ wd.heap.size) := Lib.hid T.out.size
              obtain ⟨BX, hBX⟩ : ∃ N, wd.heap.size = N := ⟨_, rfl⟩
              have hbd := Lib.hid (hb.mono T.out.size)
              replace T := Lib.hid (bThen T.out hb)
              clear hb
              rw [hBX] at KBX BXN  ⊢
              clear hBX
              refine ⟨hbd.out, ?_⟩
              clear hbd
              refine WT_one 2 rfl (by kernel_rfl) ?_
              unfold stepT
              go_wp2_with fail
              refine (HC1.out _).mono ?_
              rintro e u2 ⟨rfl, hb⟩
              replace KBX := Lib.hid (KBX.out.to hb)
              have hbd := Lib.hid (hb.mono T.out.size)
              replace T := Lib.hid (bThen T.out hb)
              clear hb
              go_wp2_with fail
              refine ⟨hbd.out, ?_⟩
              clear hbd
              refine WT_yes 3 rfl (by kernel_rfl) (fun _ _ _ _ _ h => h) (by rfl) ?_; apply Exists.intro; refine ⟨fun w1 hb1 => ?_, ?_⟩; (focus ((skip; have hb1 := Lib.hid hb1; go_simp); (try (go_bits; try go_simp)); (try (rw [if_pos (by omega)]; try go_simp)); (first | done | (fail) | (with_reducible rfl) | exact rfl)))
              simp only [Act.put, List.setIfInBounds_toArray, List.set_cons_zero, List.set_cons_succ]
              refine WT_yes 4 rfl (by kernel_rfl) (fun _ _ _ _ _ h => h) (by rfl) ?_; apply Exists.intro; refine ⟨fun w1 hb1 => ?_, ?_⟩; (focus ((skip; have hb1 := Lib.hid hb1; go_simp); (try (go_bits; try go_simp)); (try (rw [if_pos (by omega)]; try go_simp)); (first | done | (fail) | (with_reducible rfl) | exact rfl)))
              simp only [Act.put, List.setIfInBounds_toArray, List.set_cons_zero, List.set_cons_succ]
              refine WT_yes 5 rfl (by kernel_rfl) (fun _ _ _ _ _ h => h) (by rfl) ?_; apply Exists.intro; refine ⟨fun w1 hb1 => ?_, ?_⟩; (focus (((obtain ⟨-, k7, -⟩ := K7.out.to (T.out.trans hb1)); have hb1 := Lib.hid hb1; go_simp); (try (go_bits; try go_simp)); (try (rw [if_pos (by omega)]; try go_simp)); (first | done | (fail) | (with_reducible rfl) | exact rfl)))
              simp only [Act.put, List.setIfInBounds_toArray, List.set_cons_zero, List.set_cons_succ]
              refine WT_yes 6 rfl (by kernel_rfl) (fun _ _ _ _ _ h => h) (by rfl) ?_; apply Exists.intro; refine ⟨fun w1 hb1 => ?_, ?_⟩; (focus (((obtain ⟨-, kbz, -⟩ := KBZ.out.to (T.out.trans hb1)); have hb1 := Lib.hid hb1; go_simp); (try (go_bits; try go_simp)); (try (rw [if_pos (by omega)]; try go_simp)); (first | done | (fail) | (with_reducible rfl) | exact rfl)))
              simp only [Act.put, List.setIfInBounds_toArray, List.set_cons_zero, List.set_cons_succ]
              refine WT_one 7 rfl (by kernel_rfl) ?_
              unfold stepT
              go_wp2_with fail
              refine (HC2.out _).mono ?_
              rintro e u3 ⟨rfl, hb⟩
              replace KBX := Lib.hid (KBX.out.to hb)
              have hbd := Lib.hid (hb.mono T.out.size)
              replace T := Lib.hid (bThen T.out hb)
              clear hb
              go_wp2_with fail
              refine ⟨hbd.out, ?_⟩
              clear hbd
              refine WT_yes 8 rfl (by kernel_rfl) (fun _ _ _ _ _ h => h) (by rfl) ?_; apply Exists.intro; refine ⟨fun w1 hb1 => ?_, ?_⟩; (focus ((skip; have hb1 := Lib.hid hb1; go_simp); (try (go_bits; try go_simp)); (try (rw [if_pos (by omega)]; try go_simp)); (first | done | (fail) | (with_reducible rfl) | exact rfl)))
              simp only [Act.put, List.setIfInBounds_toArray, List.set_cons_zero, List.set_cons_succ]
              refine WT_yes 9 rfl (by kernel_rfl) (fun _ _ _ _ _ h => h) (by rfl) ?_; apply Exists.intro; refine ⟨fun w1 hb1 => ?_, ?_⟩; (focus ((skip; have hb1 := Lib.hid hb1; go_simp); (try (go_bits; try go_simp)); (try (rw [if_pos (by omega)]; try go_simp)); (first | done | (fail) | (with_reducible rfl) | exact rfl)))
              simp only [Act.put, List.setIfInBounds_toArray, List.set_cons_zero, List.set_cons_succ]
              refine WT_one 12 rfl (by kernel_rfl) ?_
              unfold stepT
              go_wp2_with fail
              refine (HC3.out _).mono ?_
              rintro e u4 ⟨rfl, hb⟩
              replace KBX := Lib.hid (KBX.out.to hb)
              have hbd := Lib.hid (hb.mono T.out.size)
              replace T := Lib.hid (bThen T.out hb)
              clear hb
              go_wp2_with fail
              refine ⟨hbd.out, ?_⟩
              clear hbd
              refine WT_yes 13 rfl (by kernel_rfl) (fun _ _ _ _ _ h => h) (by rfl) ?_; apply Exists.intro; refine ⟨fun w1 hb1 => ?_, ?_⟩; (focus ((skip; have hb1 := Lib.hid hb1; go_simp); (try (go_bits; try go_simp)); (try (rw [if_pos (by omega)]; try go_simp)); (first | done | (fail) | (with_reducible rfl) | exact rfl)))
              simp only [Act.put, List.setIfInBounds_toArray, List.set_cons_zero, List.set_cons_succ]
              refine WT_yes 14 rfl (by kernel_rfl) (fun _ _ _ _ _ h => h) (by rfl) ?_; apply Exists.intro; refine ⟨fun w1 hb1 => ?_, ?_⟩; (focus ((skip; have hb1 := Lib.hid hb1; go_simp); (try (go_bits; try go_simp)); (try (rw [if_pos (by omega)]; try go_simp)); (first | done | (fail) | (with_reducible rfl) | exact rfl)))
              simp only [Act.put, List.setIfInBounds_toArray, List.set_cons_zero, List.set_cons_succ]
              refine WT_no 15 rfl (by kernel_rfl) (fun _ _ _ _ _ h => h) (by rfl) ?_
              simp only [Act.put, List.setIfInBounds_toArray, List.set_cons_zero, List.set_cons_succ]
              refine WT_no 16 rfl (by kernel_rfl) (fun _ _ _ _ _ h => h) (by rfl) ?_
              simp only [Act.put, List.setIfInBounds_toArray, List.set_cons_zero, List.set_cons_succ]
              refine WT_no 17 rfl (by kernel_rfl) (fun _ _ _ _ _ h => h) (by rfl) ?_
              simp only [Act.put, List.setIfInBounds_toArray, List.set_cons_zero, List.set_cons_succ]
              refine WT_no 18 rfl (by kernel_rfl) (fun _ _ _ _ _ h => h) (by rfl) ?_
              simp only [Act.put, List.setIfInBounds_toArray, List.set_cons_zero, List.set_cons_succ]
              refine WT_yes 19 rfl (by kernel_rfl) (fun _ _ _ _ _ h => h) (by rfl) ?_; apply Exists.intro; refine ⟨fun w1 hb1 => ?_, ?_⟩; (focus ((skip; have hb1 := Lib.hid hb1; go_simp); (try (go_bits; try go_simp)); (try (rw [if_pos (by omega)]; try go_simp)); (first | done | (fail) | (with_reducible rfl) | exact rfl)))
              simp only [Act.put, List.setIfInBounds_toArray, List.set_cons_zero, List.set_cons_succ]
              refine WT_yes 20 rfl (by kernel_rfl) (fun _ _ _ _ _ h => h) (by rfl) ⟨.agg #[.bool (decide (c2 ≤ 0)), .bool false], fun w1 hb1 => (by go_simp), ?_⟩
              simp only [Act.put, List.setIfInBounds_toArray, List.set_cons_zero, List.set_cons_succ]
              refine WT_one 22 rfl (by kernel_rfl) ?_
              unfold stepT
              obtain ⟨-, kx, fx⟩ := KBX.out
              go_wp2_with fail
              clear kx fx
              obtain ⟨u5, hu⟩ : ∃ u, (u4.setCell ⟨BX, 0, none⟩ (.bool (decide (c2 ≤ 0)))).setCell ⟨BX, 1, none⟩ (.bool false) = u := ⟨_, rfl⟩
              have hb : Below wp.heap.size u4 u5 := by rw [← hu]; exact ((Below.refl _ _).setCell (p := ⟨BX, 0, none⟩) BXN.out _).setCell (p := ⟨BX, 1, none⟩) BXN.out _
              replace KBX := Lib.hid ((KBX.out.set 0 (.bool (decide (c2 ≤ 0)))).set 1 (.bool false))
              rw [hu] at KBX ⊢
              clear hu
              replace T := Lib.hid (T.out.trans hb)
              refine ⟨hb, ?_⟩
              clear hb
              refine WT_done (by kernel_rfl) ?_
              go_wp2_with fail
              go_meet
              case rel => exact ⟨BX, rfl, Lib.hid (by rw [HI1.out, HI2.out, G1.out, G3.out]; exact KBX.out), T⟩
          · have G1 := Lib.hid g1
            have G3 := Lib.hid g3
            refine wp_region_tree (by kernel_rfl) (fun wd hwd => ?_)
            have T := Lib.hid hwd
            clear hwd
            refine WT_yes 0 rfl (by kernel_rfl) (fun _ _ _ _ _ h => h) (by rfl) ?_; apply Exists.intro; refine ⟨fun w1 hb1 => ?_, ?_⟩; (focus (((obtain ⟨-, k7, -⟩ := K7.out.to (T.out.trans hb1)); have hb1 := Lib.hid hb1; go_simp); (try (go_bits; try go_simp)); (try (rw [if_pos (by omega)]; try go_simp)); (first | done | (fail) | (with_reducible rfl) | exact rfl)))
            simp only [Act.put, List.setIfInBounds_toArray, List.set_cons_zero, List.set_cons_succ]
            refine WT_yes 1 rfl (by kernel_rfl) (fun _ _ _ _ _ h => h) (by rfl) ?_; apply Exists.intro; refine ⟨fun w1 hb1 => ?_, ?_⟩; (focus (((obtain ⟨-, kba, -⟩ := KBA.out.to (T.out.trans hb1)); have hb1 := Lib.hid hb1; go_simp); (try (go_bits; try go_simp)); (try (rw [if_pos (by omega)]; try go_simp)); (first | done | (fail) | (with_reducible rfl) | exact rfl)))
            simp only [Act.put, List.setIfInBounds_toArray, List.set_cons_zero, List.set_cons_succ]
            refine WT_yes 10 rfl (by kernel_rfl) (fun _ _ _ _ _ h => h) (by rfl) ?_; apply Exists.intro; refine ⟨fun w1 hb1 => ?_, ?_⟩; (focus (((obtain ⟨-, k9, -⟩ := K9.out.to (T.out.trans hb1)); have hb1 := Lib.hid hb1; go_simp); (try (go_bits; try go_simp)); (try (rw [if_pos (by omega)]; try go_simp)); (first | done | (fail) | (with_reducible rfl) | exact rfl)))
            simp only [Act.put, List.setIfInBounds_toArray, List.set_cons_zero, List.set_cons_succ]
            refine WT_yes 11 rfl (by kernel_rfl) (fun _ _ _ _ _ h => h) (by rfl) ?_; apply Exists.intro; refine ⟨fun w1 hb1 => ?_, ?_⟩; (focus (((obtain ⟨-, kba, -⟩ := KBA.out.to (T.out.trans hb1)); have hb1 := Lib.hid hb1; go_simp); (try (go_bits; try go_simp)); (try (rw [if_pos (by omega)]; try go_simp)); (first | done | (fail) | (with_reducible rfl) | exact rfl)))
            simp only [Act.put, List.setIfInBounds_toArray, List.set_cons_zero, List.set_cons_succ]
            refine WT_two 2 21 rfl rfl (by kernel_rfl) ?_ ?_
            · unfold stepT
              go_wp2_with fail
              refine (HC1.out _).mono ?_
              rintro e u1 ⟨rfl, hb⟩
              have hbd := Lib.hid (hb.mono T.out.size)
              replace T := Lib.hid (bThen T.out hb)
              clear hb
              go_wp2_with fail
              refine ⟨hbd.out, ?_⟩
              clear hbd
              refine WT_yes 3 rfl (by kernel_rfl) (fun _ _ _ _ _ h => h) (by rfl) ?_; apply Exists.intro; refine ⟨fun w1 hb1 => ?_, ?_⟩; (focus ((skip; have hb1 := Lib.hid hb1; go_simp); (try (go_bits; try go_simp)); (try (rw [if_pos (by omega)]; try go_simp)); (first | done | (fail) | (with_reducible rfl) | exact rfl)))
              simp only [Act.put, List.setIfInBounds_toArray, List.set_cons_zero, List.set_cons_succ]
              refine WT_yes 4 rfl (by kernel_rfl) (fun _ _ _ _ _ h => h) (by rfl) ?_; apply Exists.intro; refine ⟨fun w1 hb1 => ?_, ?_⟩; (focus ((skip; have hb1 := Lib.hid hb1; go_simp); (try (go_bits; try go_simp)); (try (rw [if_pos (by omega)]; try go_simp)); (first | done | (fail) | (with_reducible rfl) | exact rfl)))
              simp only [Act.put, List.setIfInBounds_toArray, List.set_cons_zero, List.set_cons_succ]
              refine WT_yes 5 rfl (by kernel_rfl) (fun _ _ _ _ _ h => h) (by rfl) ?_; apply Exists.intro; refine ⟨fun w1 hb1 => ?_, ?_⟩; (focus (((obtain ⟨-, k7, -⟩ := K7.out.to (T.out.trans hb1)); have hb1 := Lib.hid hb1; go_simp); (try (go_bits; try go_simp)); (try (rw [if_pos (by omega)]; try go_simp)); (first | done | (fail) | (with_reducible rfl) | exact rfl)))
              simp only [Act.put, List.setIfInBounds_toArray, List.set_cons_zero, List.set_cons_succ]
              refine WT_yes 6 rfl (by kernel_rfl) (fun _ _ _ _ _ h => h) (by rfl) ?_; apply Exists.intro; refine ⟨fun w1 hb1 => ?_, ?_⟩; (focus (((obtain ⟨-, kbz, -⟩ := KBZ.out.to (T.out.trans hb1)); have hb1 := Lib.hid hb1; go_simp); (try (go_bits; try go_simp)); (try (rw [if_pos (by omega)]; try go_simp)); (first | done | (fail) | (with_reducible rfl) | exact rfl)))
              simp only [Act.put, List.setIfInBounds_toArray, List.set_cons_zero, List.set_cons_succ]
              refine WT_two 7 21 rfl rfl (by kernel_rfl) ?_ ?_
              · unfold stepT
                go_wp2_with fail
                refine (HC2.out _).mono ?_
                rintro e u2 ⟨rfl, hb⟩
                have hbd := Lib.hid (hb.mono T.out.size)
                replace T := Lib.hid (bThen T.out hb)
                clear hb
                go_wp2_with fail
                refine ⟨hbd.out, ?_⟩
                clear hbd
                refine WT_yes 8 rfl (by kernel_rfl) (fun _ _ _ _ _ h => h) (by rfl) ?_; apply Exists.intro; refine ⟨fun w1 hb1 => ?_, ?_⟩; (focus ((skip; have hb1 := Lib.hid hb1; go_simp); (try (go_bits; try go_simp)); (try (rw [if_pos (by omega)]; try go_simp)); (first | done | (fail) | (with_reducible rfl) | exact rfl)))
                simp only [Act.put, List.setIfInBounds_toArray, List.set_cons_zero, List.set_cons_succ]
                refine WT_yes 9 rfl (by kernel_rfl) (fun _ _ _ _ _ h => h) (by rfl) ?_; apply Exists.intro; refine ⟨fun w1 hb1 => ?_, ?_⟩; (focus ((skip; have hb1 := Lib.hid hb1; go_simp); (try (go_bits; try go_simp)); (try (rw [if_pos (by omega)]; try go_simp)); (first | done | (fail) | (with_reducible rfl) | exact rfl)))
                simp only [Act.put, List.setIfInBounds_toArray, List.set_cons_zero, List.set_cons_succ]
                refine WT_two 12 21 rfl rfl (by kernel_rfl) ?_ ?_
                · unfold stepT
                  go_wp2_with fail
                  refine (HC3.out _).mono ?_
                  rintro e u3 ⟨rfl, hb⟩
                  have hbd := Lib.hid (hb.mono T.out.size)
                  replace T := Lib.hid (bThen T.out hb)
                  clear hb
                  go_wp2_with fail
                  refine ⟨hbd.out, ?_⟩
                  clear hbd
                  refine WT_yes 13 rfl (by kernel_rfl) (fun _ _ _ _ _ h => h) (by rfl) ?_; apply Exists.intro; refine ⟨fun w1 hb1 => ?_, ?_⟩; (focus ((skip; have hb1 := Lib.hid hb1; go_simp); (try (go_bits; try go_simp)); (try (rw [if_pos (by omega)]; try go_simp)); (first | done | (fail) | (with_reducible rfl) | exact rfl)))
                  simp only [Act.put, List.setIfInBounds_toArray, List.set_cons_zero, List.set_cons_succ]
                  refine WT_yes 14 rfl (by kernel_rfl) (fun _ _ _ _ _ h => h) (by rfl) ?_; apply Exists.intro; refine ⟨fun w1 hb1 => ?_, ?_⟩; (focus ((skip; have hb1 := Lib.hid hb1; go_simp); (try (go_bits; try go_simp)); (try (rw [if_pos (by omega)]; try go_simp)); (first | done | (fail) | (with_reducible rfl) | exact rfl)))
                  simp only [Act.put, List.setIfInBounds_toArray, List.set_cons_zero, List.set_cons_succ]
                  refine WT_yes 15 rfl (by kernel_rfl) (fun _ _ _ _ _ h => h) (by rfl) ?_; apply Exists.intro; refine ⟨fun w1 hb1 => ?_, ?_⟩; (focus (((obtain ⟨-, k9, -⟩ := K9.out.to (T.out.trans hb1)); have hb1 := Lib.hid hb1; go_simp); (try (go_bits; try go_simp)); (try (rw [if_pos (by omega)]; try go_simp)); (first | done | (fail) | (with_reducible rfl) | exact rfl)))
                  simp only [Act.put, List.setIfInBounds_toArray, List.set_cons_zero, List.set_cons_succ]
                  refine WT_yes 16 rfl (by kernel_rfl) (fun _ _ _ _ _ h => h) (by rfl) ?_; apply Exists.intro; refine ⟨fun w1 hb1 => ?_, ?_⟩; (focus (((obtain ⟨-, kbz, -⟩ := KBZ.out.to (T.out.trans hb1)); have hb1 := Lib.hid hb1; go_simp); (try (go_bits; try go_simp)); (try (rw [if_pos (by omega)]; try go_simp)); (first | done | (fail) | (with_reducible rfl) | exact rfl)))
                  simp only [Act.put, List.setIfInBounds_toArray, List.set_cons_zero, List.set_cons_succ]
                  refine WT_two 17 21 rfl rfl (by kernel_rfl) ?_ ?_
                  · unfold stepT
                    go_wp2_with fail
                    refine (HC4.out _).mono ?_
                    rintro e u4 ⟨rfl, hb⟩
                    have hbd := Lib.hid (hb.mono T.out.size)
                    replace T := Lib.hid (bThen T.out hb)
                    clear hb
                    go_wp2_with fail
                    refine ⟨hbd.out, ?_⟩
                    clear hbd
                    refine WT_yes 18 rfl (by kernel_rfl) (fun _ _ _ _ _ h => h) (by rfl) ?_; apply Exists.intro; refine ⟨fun w1 hb1 => ?_, ?_⟩; (focus ((skip; have hb1 := Lib.hid hb1; go_simp); (try (go_bits; try go_simp)); (try (rw [if_pos (by omega)]; try go_simp)); (first | done | (fail) | (with_reducible rfl) | exact rfl)))
                    simp only [Act.put, List.setIfInBounds_toArray, List.set_cons_zero, List.set_cons_succ]
                    refine WT_yes 19 rfl (by kernel_rfl) (fun _ _ _ _ _ h => h) (by rfl) ?_; apply Exists.intro; refine ⟨fun w1 hb1 => ?_, ?_⟩; (focus ((skip; have hb1 := Lib.hid hb1; go_simp); (try (go_bits; try go_simp)); (try (rw [if_pos (by omega)]; try go_simp)); (first | done | (fail) | (with_reducible rfl) | exact rfl)))
                    simp only [Act.put, List.setIfInBounds_toArray, List.set_cons_zero, List.set_cons_succ]
                    refine WT_yes 20 rfl (by kernel_rfl) (fun _ _ _ _ _ h => h) (by rfl) ⟨.agg #[.bool (decide (c2 ≤ 0)), .bool (decide (c4 ≤ 0))], fun w1 hb1 => (by go_simp), ?_⟩
                    simp only [Act.put, List.setIfInBounds_toArray, List.set_cons_zero, List.set_cons_succ]
                    refine WT_one 21 rfl (by kernel_rfl) ?_
                    unfold stepT
                    go_wp2_with fail
                    obtain ⟨u5, hwA⟩ : ∃ wA, u4.alloc (.cells #[.bool false, .bool false] 40) = wA := ⟨_, rfl⟩
                    rw [hwA]
                    have hb : Below u4.heap.size u4 u5 := by subst hwA; exact bAlloc (bSelf _) _
                    have KBX : Hid (Blk u5 u4.heap.size #[.bool false, .bool false]) := by subst hwA; exact Blk.new _ _ _
                    clear hwA
                    have BXN : Hid (wp.heap.size ≤ u4.heap.size) := Lib.hid T.out.size
                    obtain ⟨BX, hBX⟩ : ∃ N, u4.heap.size = N := ⟨_, rfl⟩
                    have hbd := Lib.hid (hb.mono T.out.size)
                    replace T := Lib.hid (bThen T.out hb)
                    clear hb
                    rw [hBX] at KBX BXN  ⊢
                    clear hBX
                    refine ⟨hbd.out, ?_⟩
                    clear hbd
                    refine WT_one 22 rfl (by kernel_rfl) ?_
                    unfold stepT
                    obtain ⟨-, kx, fx⟩ := KBX.out
                    go_wp2_with fail
                    clear kx fx
                    obtain ⟨u6, hu⟩ : ∃ u, (u5.setCell ⟨BX, 0, none⟩ (.bool (decide (c2 ≤ 0)))).setCell ⟨BX, 1, none⟩ (.bool (decide (c4 ≤ 0))) = u := ⟨_, rfl⟩
                    have hb : Below wp.heap.size u5 u6 := by rw [← hu]; exact ((Below.refl _ _).setCell (p := ⟨BX, 0, none⟩) BXN.out _).setCell (p := ⟨BX, 1, none⟩) BXN.out _
                    replace KBX := Lib.hid ((KBX.out.set 0 (.bool (decide (c2 ≤ 0)))).set 1 (.bool (decide (c4 ≤ 0))))
                    rw [hu] at KBX ⊢
                    clear hu
                    replace T := Lib.hid (T.out.trans hb)
                    refine ⟨hb, ?_⟩
                    clear hb
                    refine WT_done (by kernel_rfl) ?_
                    go_wp2_with fail
                    go_meet
                    case rel => exact ⟨BX, rfl, Lib.hid (by rw [HI1.out, HI2.out, G1.out, G3.out]; exact KBX.out), T⟩
                  · unfold stepT
                    go_wp2_with fail
                    obtain ⟨u4, hwA⟩ : ∃ wA, u3.alloc (.cells #[.bool false, .bool false] 40) = wA := ⟨_, rfl⟩
                    rw [hwA]
                    have hb : Below u3.heap.size u3 u4 := by subst hwA; exact bAlloc (bSelf _) _
                    have KBX : Hid (Blk u4 u3.heap.size #[.bool false, .bool false]) := by subst hwA; exact Blk.new _ _ _
                    clear hwA
                    have BXN : Hid (wp.heap.size ≤ u3.heap.size) := Lib.hid T.out.size
                    obtain ⟨BX, hBX⟩ : ∃ N, u3.heap.size = N := ⟨_, rfl⟩
                    have hbd := Lib.hid (hb.mono T.out.size)
                    replace T := Lib.hid (bThen T.out hb)
                    clear hb
                    rw [hBX] at KBX BXN  ⊢
                    clear hBX
                    refine ⟨hbd.out, ?_⟩
                    clear hbd
                    refine WT_one 17 rfl (by kernel_rfl) ?_
                    unfold stepT
                    go_wp2_with fail
                    refine (HC4.out _).mono ?_
                    rintro e u5 ⟨rfl, hb⟩
                    replace KBX := Lib.hid (KBX.out.to hb)
                    have hbd := Lib.hid (hb.mono T.out.size)
                    replace T := Lib.hid (bThen T.out hb)
                    clear hb
                    go_wp2_with fail
                    refine ⟨hbd.out, ?_⟩
                    clear hbd
                    refine WT_yes 18 rfl (by kernel_rfl) (fun _ _ _ _ _ h => h) (by rfl) ?_; apply Exists.intro; refine ⟨fun w1 hb1 => ?_, ?_⟩; (focus ((skip; have hb1 := Lib.hid hb1; go_simp); (try (go_bits; try go_simp)); (try (rw [if_pos (by omega)]; try go_simp)); (first | done | (fail) | (with_reducible rfl) | exact rfl)))
                    simp only [Act.put, List.setIfInBounds_toArray, List.set_cons_zero, List.set_cons_succ]
                    refine WT_yes 19 rfl (by kernel_rfl) (fun _ _ _ _ _ h => h) (by rfl) ?_; apply Exists.intro; refine ⟨fun w1 hb1 => ?_, ?_⟩; (focus ((skip; have hb1 := Lib.hid hb1; go_simp); (try (go_bits; try go_simp)); (try (rw [if_pos (by omega)]; try go_simp)); (first | done | (fail) | (with_reducible rfl) | exact rfl)))
                    simp only [Act.put, List.setIfInBounds_toArray, List.set_cons_zero, List.set_cons_succ]
                    refine WT_yes 20 rfl (by kernel_rfl) (fun _ _ _ _ _ h => h) (by rfl) ⟨.agg #[.bool (decide (c2 ≤ 0)), .bool (decide (c4 ≤ 0))], fun w1 hb1 => (by go_simp), ?_⟩
                    simp only [Act.put, List.setIfInBounds_toArray, List.set_cons_zero, List.set_cons_succ]
                    refine WT_one 22 rfl (by kernel_rfl) ?_
                    unfold stepT
                    obtain ⟨-, kx, fx⟩ := KBX.out
                    go_wp2_with fail
                    clear kx fx
                    obtain ⟨u6, hu⟩ : ∃ u, (u5.setCell ⟨BX, 0, none⟩ (.bool (decide (c2 ≤ 0)))).setCell ⟨BX, 1, none⟩ (.bool (decide (c4 ≤ 0))) = u := ⟨_, rfl⟩
                    have hb : Below wp.heap.size u5 u6 := by rw [← hu]; exact ((Below.refl _ _).setCell (p := ⟨BX, 0, none⟩) BXN.out _).setCell (p := ⟨BX, 1, none⟩) BXN.out _
                    replace KBX := Lib.hid ((KBX.out.set 0 (.bool (decide (c2 ≤ 0)))).set 1 (.bool (decide (c4 ≤ 0))))
                    rw [hu] at KBX ⊢
                    clear hu
                    replace T := Lib.hid (T.out.trans hb)
                    refine ⟨hb, ?_⟩
                    clear hb
                    refine WT_done (by kernel_rfl) ?_
                    go_wp2_with fail
                    go_meet
                    case rel => exact ⟨BX, rfl, Lib.hid (by rw [HI1.out, HI2.out, G1.out, G3.out]; exact KBX.out), T⟩
                · unfold stepT
                  go_wp2_with fail
                  obtain ⟨u3, hwA⟩ : ∃ wA, u2.alloc (.cells #[.bool false, .bool false] 40) = wA := ⟨_, rfl⟩
                  rw [hwA]
                  have hb : Below u2.heap.size u2 u3 := by subst hwA; exact bAlloc (bSelf _) _
                  have KBX : Hid (Blk u3 u2.heap.size #[.bool false, .bool false]) := by subst hwA; exact Blk.new _ _ _
                  clear hwA
                  have BXN : Hid (wp.heap.size ≤ u2.heap.size) := Lib.hid T.out.size
                  obtain ⟨BX, hBX⟩ : ∃ N, u2.heap.size = N := ⟨_, rfl⟩
                  have hbd := Lib.hid (hb.mono T.out.size)
                  replace T := Lib.hid (bThen T.out hb)
                  clear hb
                  rw [hBX] at KBX BXN  ⊢
                  clear hBX
                  refine ⟨hbd.out, ?_⟩
                  clear hbd
                  refine WT_one 12 rfl (by kernel_rfl) ?_
                  unfold stepT
                  go_wp2_with fail
                  refine (HC3.out _).mono ?_
                  rintro e u4 ⟨rfl, hb⟩
                  replace KBX := Lib.hid (KBX.out.to hb)
                  have hbd := Lib.hid (hb.mono T.out.size)
                  replace T := Lib.hid (bThen T.out hb)
                  clear hb
                  go_wp2_with fail
                  refine ⟨hbd.out, ?_⟩
                  clear hbd
                  refine WT_yes 13 rfl (by kernel_rfl) (fun _ _ _ _ _ h => h) (by rfl) ?_; apply Exists.intro; refine ⟨fun w1 hb1 => ?_, ?_⟩; (focus ((skip; have hb1 := Lib.hid hb1; go_simp); (try (go_bits; try go_simp)); (try (rw [if_pos (by omega)]; try go_simp)); (first | done | (fail) | (with_reducible rfl) | exact rfl)))
                  simp only [Act.put, List.setIfInBounds_toArray, List.set_cons_zero, List.set_cons_succ]
                  refine WT_yes 14 rfl (by kernel_rfl) (fun _ _ _ _ _ h => h) (by rfl) ?_; apply Exists.intro; refine ⟨fun w1 hb1 => ?_, ?_⟩; (focus ((skip; have hb1 := Lib.hid hb1; go_simp); (try (go_bits; try go_simp)); (try (rw [if_pos (by omega)]; try go_simp)); (first | done | (fail) | (with_reducible rfl) | exact rfl)))
                  simp only [Act.put, List.setIfInBounds_toArray, List.set_cons_zero, List.set_cons_succ]
                  refine WT_yes 15 rfl (by kernel_rfl) (fun _ _ _ _ _ h => h) (by rfl) ?_; apply Exists.intro; refine ⟨fun w1 hb1 => ?_, ?_⟩; (focus (((obtain ⟨-, k9, -⟩ := K9.out.to (T.out.trans hb1)); have hb1 := Lib.hid hb1; go_simp); (try (go_bits; try go_simp)); (try (rw [if_pos (by omega)]; try go_simp)); (first | done | (fail) | (with_reducible rfl) | exact rfl)))
                  simp only [Act.put, List.setIfInBounds_toArray, List.set_cons_zero, List.set_cons_succ]
                  refine WT_yes 16 rfl (by kernel_rfl) (fun _ _ _ _ _ h => h) (by rfl) ?_; apply Exists.intro; refine ⟨fun w1 hb1 => ?_, ?_⟩; (focus (((obtain ⟨-, kbz, -⟩ := KBZ.out.to (T.out.trans hb1)); have hb1 := Lib.hid hb1; go_simp); (try (go_bits; try go_simp)); (try (rw [if_pos (by omega)]; try go_simp)); (first | done | (fail) | (with_reducible rfl) | exact rfl)))
                  simp only [Act.put, List.setIfInBounds_toArray, List.set_cons_zero, List.set_cons_succ]
                  refine WT_one 17 rfl (by kernel_rfl) ?_
                  unfold stepT
                  go_wp2_with fail
                  refine (HC4.out _).mono ?_
                  rintro e u5 ⟨rfl, hb⟩
                  replace KBX := Lib.hid (KBX.out.to hb)
                  have hbd := Lib.hid (hb.mono T.out.size)
                  replace T := Lib.hid (bThen T.out hb)
                  clear hb
                  go_wp2_with fail
                  refine ⟨hbd.out, ?_⟩
                  clear hbd
                  refine WT_yes 18 rfl (by kernel_rfl) (fun _ _ _ _ _ h => h) (by rfl) ?_; apply Exists.intro; refine ⟨fun w1 hb1 => ?_, ?_⟩; (focus ((skip; have hb1 := Lib.hid hb1; go_simp); (try (go_bits; try go_simp)); (try (rw [if_pos (by omega)]; try go_simp)); (first | done | (fail) | (with_reducible rfl) | exact rfl)))
                  simp only [Act.put, List.setIfInBounds_toArray, List.set_cons_zero, List.set_cons_succ]
                  refine WT_yes 19 rfl (by kernel_rfl) (fun _ _ _ _ _ h => h) (by rfl) ?_; apply Exists.intro; refine ⟨fun w1 hb1 => ?_, ?_⟩; (focus ((skip; have hb1 := Lib.hid hb1; go_simp); (try (go_bits; try go_simp)); (try (rw [if_pos (by omega)]; try go_simp)); (first | done | (fail) | (with_reducible rfl) | exact rfl)))
                  simp only [Act.put, List.setIfInBounds_toArray, List.set_cons_zero, List.set_cons_succ]
                  refine WT_yes 20 rfl (by kernel_rfl) (fun _ _ _ _ _ h => h) (by rfl) ⟨.agg #[.bool (decide (c2 ≤ 0)), .bool (decide (c4 ≤ 0))], fun w1 hb1 => (by go_simp), ?_⟩
                  simp only [Act.put, List.setIfInBounds_toArray, List.set_cons_zero, List.set_cons_succ]
                  refine WT_one 22 rfl (by kernel_rfl) ?_
                  unfold stepT
                  obtain ⟨-, kx, fx⟩ := KBX.out
                  go_wp2_with fail
                  clear kx fx
                  obtain ⟨u6, hu⟩ : ∃ u, (u5.setCell ⟨BX, 0, none⟩ (.bool (decide (c2 ≤ 0)))).setCell ⟨BX, 1, none⟩ (.bool (decide (c4 ≤ 0))) = u := ⟨_, rfl⟩
                  have hb : Below wp.heap.size u5 u6 := by rw [← hu]; exact ((Below.refl _ _).setCell (p := ⟨BX, 0, none⟩) BXN.out _).setCell (p := ⟨BX, 1, none⟩) BXN.out _
                  replace KBX := Lib.hid ((KBX.out.set 0 (.bool (decide (c2 ≤ 0)))).set 1 (.bool (decide (c4 ≤ 0))))
                  rw [hu] at KBX ⊢
                  clear hu
                  replace T := Lib.hid (T.out.trans hb)
                  refine ⟨hb, ?_⟩
                  clear hb
                  refine WT_done (by kernel_rfl) ?_
                  go_wp2_with fail
                  go_meet
                  case rel => exact ⟨BX, rfl, Lib.hid (by rw [HI1.out, HI2.out, G1.out, G3.out]; exact KBX.out), T⟩
              · unfold stepT
                go_wp2_with fail
                obtain ⟨u2, hwA⟩ : ∃ wA, u1.alloc (.cells #[.bool false, .bool false] 40) = wA := ⟨_, rfl⟩
                rw [hwA]
                have hb : Below u1.heap.size u1 u2 := by subst hwA; exact bAlloc (bSelf _) _
                have KBX : Hid (Blk u2 u1.heap.size #[.bool false, .bool false]) := by subst hwA; exact Blk.new _ _ _
                clear hwA
                have BXN : Hid (wp.heap.size ≤ u1.heap.size) := Lib.hid T.out.size
                obtain ⟨BX, hBX⟩ : ∃ N, u1.heap.size = N := ⟨_, rfl⟩
                have hbd := Lib.hid (hb.mono T.out.size)
                replace T := Lib.hid (bThen T.out hb)
                clear hb
                rw [hBX] at KBX BXN  ⊢
                clear hBX
                refine ⟨hbd.out, ?_⟩
                clear hbd
                refine WT_one 7 rfl (by kernel_rfl) ?_
                unfold stepT
                go_wp2_with fail
                refine (HC2.out _).mono ?_
                rintro e u3 ⟨rfl, hb⟩
                replace KBX := Lib.hid (KBX.out.to hb)
                have hbd := Lib.hid (hb.mono T.out.size)
                replace T := Lib.hid (bThen T.out hb)
                clear hb
                go_wp2_with fail
                refine ⟨hbd.out, ?_⟩
                clear hbd
                refine WT_yes 8 rfl (by kernel_rfl) (fun _ _ _ _ _ h => h) (by rfl) ?_; apply Exists.intro; refine ⟨fun w1 hb1 => ?_, ?_⟩; (focus ((skip; have hb1 := Lib.hid hb1; go_simp); (try (go_bits; try go_simp)); (try (rw [if_pos (by omega)]; try go_simp)); (first | done | (fail) | (with_reducible rfl) | exact rfl)))
                simp only [Act.put, List.setIfInBounds_toArray, List.set_cons_zero, List.set_cons_succ]
                refine WT_yes 9 rfl (by kernel_rfl) (fun _ _ _ _ _ h => h) (by rfl) ?_; apply Exists.intro; refine ⟨fun w1 hb1 => ?_, ?_⟩; (focus ((skip; have hb1 := Lib.hid hb1; go_simp); (try (go_bits; try go_simp)); (try (rw [if_pos (by omega)]; try go_simp)); (first | done | (fail) | (with_reducible rfl) | exact rfl)))
                simp only [Act.put, List.setIfInBounds_toArray, List.set_cons_zero, List.set_cons_succ]
                refine WT_one 12 rfl (by kernel_rfl) ?_
                unfold stepT
                go_wp2_with fail
                refine (HC3.out _).mono ?_
                rintro e u4 ⟨rfl, hb⟩
                replace KBX := Lib.hid (KBX.out.to hb)
                have hbd := Lib.hid (hb.mono T.out.size)
                replace T := Lib.hid (bThen T.out hb)
                clear hb
                go_wp2_with fail
                refine ⟨hbd.out, ?_⟩
                clear hbd
                refine WT_yes 13 rfl (by kernel_rfl) (fun _ _ _ _ _ h => h) (by rfl) ?_; apply Exists.intro; refine ⟨fun w1 hb1 => ?_, ?_⟩; (focus ((skip; have hb1 := Lib.hid hb1; go_simp); (try (go_bits; try go_simp)); (try (rw [if_pos (by omega)]; try go_simp)); (first | done | (fail) | (with_reducible rfl) | exact rfl)))
                simp only [Act.put, List.setIfInBounds_toArray, List.set_cons_zero, List.set_cons_succ]
                refine WT_yes 14 rfl (by kernel_rfl) (fun _ _ _ _ _ h => h) (by rfl) ?_; apply Exists.intro; refine ⟨fun w1 hb1 => ?_, ?_⟩; (focus ((skip; have hb1 := Lib.hid hb1; go_simp); (try (go_bits; try go_simp)); (try (rw [if_pos (by omega)]; try go_simp)); (first | done | (fail) | (with_reducible rfl) | exact rfl)))
                simp only [Act.put, List.setIfInBounds_toArray, List.set_cons_zero, List.set_cons_succ]
                refine WT_yes 15 rfl (by kernel_rfl) (fun _ _ _ _ _ h => h) (by rfl) ?_; apply Exists.intro; refine ⟨fun w1 hb1 => ?_, ?_⟩; (focus (((obtain ⟨-, k9, -⟩ := K9.out.to (T.out.trans hb1)); have hb1 := Lib.hid hb1; go_simp); (try (go_bits; try go_simp)); (try (rw [if_pos (by omega)]; try go_simp)); (first | done | (fail) | (with_reducible rfl) | exact rfl)))
                simp only [Act.put, List.setIfInBounds_toArray, List.set_cons_zero, List.set_cons_succ]
                refine WT_yes 16 rfl (by kernel_rfl) (fun _ _ _ _ _ h => h) (by rfl) ?_; apply Exists.intro; refine ⟨fun w1 hb1 => ?_, ?_⟩; (focus (((obtain ⟨-, kbz, -⟩ := KBZ.out.to (T.out.trans hb1)); have hb1 := Lib.hid hb1; go_simp); (try (go_bits; try go_simp)); (try (rw [if_pos (by omega)]; try go_simp)); (first | done | (fail) | (with_reducible rfl) | exact rfl)))
                simp only [Act.put, List.setIfInBounds_toArray, List.set_cons_zero, List.set_cons_succ]
                refine WT_one 17 rfl (by kernel_rfl) ?_
                unfold stepT
                go_wp2_with fail
                refine (HC4.out _).mono ?_
                rintro e u5 ⟨rfl, hb⟩
                replace KBX := Lib.hid (KBX.out.to hb)
                have hbd := Lib.hid (hb.mono T.out.size)
                replace T := Lib.hid (bThen T.out hb)
                clear hb
                go_wp2_with fail
                refine ⟨hbd.out, ?_⟩
                clear hbd
                refine WT_yes 18 rfl (by kernel_rfl) (fun _ _ _ _ _ h => h) (by rfl) ?_; apply Exists.intro; refine ⟨fun w1 hb1 => ?_, ?_⟩; (focus ((skip; have hb1 := Lib.hid hb1; go_simp); (try (go_bits; try go_simp)); (try (rw [if_pos (by omega)]; try go_simp)); (first | done | (fail) | (with_reducible rfl) | exact rfl)))
                simp only [Act.put, List.setIfInBounds_toArray, List.set_cons_zero, List.set_cons_succ]
                refine WT_yes 19 rfl (by kernel_rfl) (fun _ _ _ _ _ h => h) (by rfl) ?_; apply Exists.intro; refine ⟨fun w1 hb1 => ?_, ?_⟩; (focus ((skip; have hb1 := Lib.hid hb1; go_simp); (try (go_bits; try go_simp)); (try (rw [if_pos (by omega)]; try go_simp)); (first | done | (fail) | (with_reducible rfl) | exact rfl)))
                simp only [Act.put, List.setIfInBounds_toArray, List.set_cons_zero, List.set_cons_succ]
                refine WT_yes 20 rfl (by kernel_rfl) (fun _ _ _ _ _ h => h) (by rfl) ⟨.agg #[.bool (decide (c2 ≤ 0)), .bool (decide (c4 ≤ 0))], fun w1 hb1 => (by go_simp), ?_⟩
                simp only [Act.put, List.setIfInBounds_toArray, List.set_cons_zero, List.set_cons_succ]
                refine WT_one 22 rfl (by kernel_rfl) ?_
                unfold stepT
                obtain ⟨-, kx, fx⟩ := KBX.out
                go_wp2_with fail
                clear kx fx
                obtain ⟨u6, hu⟩ : ∃ u, (u5.setCell ⟨BX, 0, none⟩ (.bool (decide (c2 ≤ 0)))).setCell ⟨BX, 1, none⟩ (.bool (decide (c4 ≤ 0))) = u := ⟨_, rfl⟩
                have hb : Below wp.heap.size u5 u6 := by rw [← hu]; exact ((Below.refl _ _).setCell (p := ⟨BX, 0, none⟩) BXN.out _).setCell (p := ⟨BX, 1, none⟩) BXN.out _
                replace KBX := Lib.hid ((KBX.out.set 0 (.bool (decide (c2 ≤ 0)))).set 1 (.bool (decide (c4 ≤ 0))))
                rw [hu] at KBX ⊢
                clear hu
                replace T := Lib.hid (T.out.trans hb)
                refine ⟨hb, ?_⟩
                clear hb
                refine WT_done (by kernel_rfl) ?_
                go_wp2_with fail
                go_meet
                case rel => exact ⟨BX, rfl, Lib.hid (by rw [HI1.out, HI2.out, G1.out, G3.out]; exact KBX.out), T⟩
            · unfold stepT
              go_wp2_with fail
              obtain ⟨u1, hwA⟩ : ∃ wA, wd.alloc (.cells #[.bool false, .bool false] 40) = wA := ⟨_, rfl⟩
              rw [hwA]
              have hb : Below wd.heap.size wd u1 := by subst hwA; exact bAlloc (bSelf _) _
              have KBX : Hid (Blk u1 wd.heap.size #[.bool false, .bool false]) := by subst hwA; exact Blk.new _ _ _
              clear hwA
              have BXN : Hid (wp.heap.size ≤ wd.heap.size) := Lib.hid T.out.size
              obtain ⟨BX, hBX⟩ : ∃ N, wd.heap.size = N := ⟨_, rfl⟩
              have hbd := Lib.hid (hb.mono T.out.size)
              replace T := Lib.hid (bThen T.out hb)
              clear hb
              rw [hBX] at KBX BXN  ⊢
              clear hBX
              refine ⟨hbd.out, ?_⟩
              clear hbd
              refine WT_one 2 rfl (by kernel_rfl) ?_
              unfold stepT
              go_wp2_with fail
              refine (HC1.out _).mono ?_
              rintro e u2 ⟨rfl, hb⟩
              replace KBX := Lib.hid (KBX.out.to hb)
              have hbd := Lib.hid (hb.mono T.out.size)
              replace T := Lib.hid (bThen T.out hb)
              clear hb
              go_wp2_with fail
              refine ⟨hbd.out, ?_⟩
              clear hbd
              refine WT_yes 3 rfl (by kernel_rfl) (fun _ _ _ _ _ h => h) (by rfl) ?_; apply Exists.intro; refine ⟨fun w1 hb1 => ?_, ?_⟩; (focus ((skip; have hb1 := Lib.hid hb1; go_simp); (try (go_bits; try go_simp)); (try (rw [if_pos (by omega)]; try go_simp)); (first | done | (fail) | (with_reducible rfl) | exact rfl)))
              simp only [Act.put, List.setIfInBounds_toArray, List.set_cons_zero, List.set_cons_succ]
              refine WT_yes 4 rfl (by kernel_rfl) (fun _ _ _ _ _ h => h) (by rfl) ?_; apply Exists.intro; refine ⟨fun w1 hb1 => ?_, ?_⟩; (focus ((skip; have hb1 := Lib.hid hb1; go_simp); (try (go_bits; try go_simp)); (try (rw [if_pos (by omega)]; try go_simp)); (first | done | (fail) | (with_reducible rfl) | exact rfl)))
              simp only [Act.put, List.setIfInBounds_toArray, List.set_cons_zero, List.set_cons_succ]
              refine WT_yes 5 rfl (by kernel_rfl) (fun _ _ _ _ _ h => h) (by rfl) ?_; apply Exists.intro; refine ⟨fun w1 hb1 => ?_, ?_⟩; (focus (((obtain ⟨-, k7, -⟩ := K7.out.to (T.out.trans hb1)); have hb1 := Lib.hid hb1; go_simp); (try (go_bits; try go_simp)); (try (rw [if_pos (by omega)]; try go_simp)); (first | done | (fail) | (with_reducible rfl) | exact rfl)))
              simp only [Act.put, List.setIfInBounds_toArray, List.set_cons_zero, List.set_cons_succ]
              refine WT_yes 6 rfl (by kernel_rfl) (fun _ _ _ _ _ h => h) (by rfl) ?_; apply Exists.intro; refine ⟨fun w1 hb1 => ?_, ?_⟩; (focus (((obtain ⟨-, kbz, -⟩ := KBZ.out.to (T.out.trans hb1)); have hb1 := Lib.hid hb1; go_simp); (try (go_bits; try go_simp)); (try (rw [if_pos (by omega)]; try go_simp)); (first | done | (fail) | (with_reducible rfl) | exact rfl)))
              simp only [Act.put, List.setIfInBounds_toArray, List.set_cons_zero, List.set_cons_succ]
              refine WT_one 7 rfl (by kernel_rfl) ?_
              unfold stepT
              go_wp2_with fail
              refine (HC2.out _).mono ?_
              rintro e u3 ⟨rfl, hb⟩
              replace KBX := Lib.hid (KBX.out.to hb)
              have hbd := Lib.hid (hb.mono T.out.size)
              replace T := Lib.hid (bThen T.out hb)
              clear hb
              go_wp2_with fail
              refine ⟨hbd.out, ?_⟩
              clear hbd
              refine WT_yes 8 rfl (by kernel_rfl) (fun _ _ _ _ _ h => h) (by rfl) ?_; apply Exists.intro; refine ⟨fun w1 hb1 => ?_, ?_⟩; (focus ((skip; have hb1 := Lib.hid hb1; go_simp); (try (go_bits; try go_simp)); (try (rw [if_pos (by omega)]; try go_simp)); (first | done | (fail) | (with_reducible rfl) | exact rfl)))
              simp only [Act.put, List.setIfInBounds_toArray, List.set_cons_zero, List.set_cons_succ]
              refine WT_yes 9 rfl (by kernel_rfl) (fun _ _ _ _ _ h => h) (by rfl) ?_; apply Exists.intro; refine ⟨fun w1 hb1 => ?_, ?_⟩; (focus ((skip; have hb1 := Lib.hid hb1; go_simp); (try (go_bits; try go_simp)); (try (rw [if_pos (by omega)]; try go_simp)); (first | done | (fail) | (with_reducible rfl) | exact rfl)))
              simp only [Act.put, List.setIfInBounds_toArray, List.set_cons_zero, List.set_cons_succ]
              refine WT_one 12 rfl (by kernel_rfl) ?_
              unfold stepT
              go_wp2_with fail
              refine (HC3.out _).mono ?_
              rintro e u4 ⟨rfl, hb⟩
              replace KBX := Lib.hid (KBX.out.to hb)
              have hbd := Lib.hid (hb.mono T.out.size)
              replace T := Lib.hid (bThen T.out hb)
              clear hb
              go_wp2_with fail
              refine ⟨hbd.out, ?_⟩
              clear hbd
              refine WT_yes 13 rfl (by kernel_rfl) (fun _ _ _ _ _ h => h) (by rfl) ?_; apply Exists.intro; refine ⟨fun w1 hb1 => ?_, ?_⟩; (focus ((skip; have hb1 := Lib.hid hb1; go_simp); (try (go_bits; try go_simp)); (try (rw [if_pos (by omega)]; try go_simp)); (first | done | (fail) | (with_reducible rfl) | exact rfl)))
              simp only [Act.put, List.setIfInBounds_toArray, List.set_cons_zero, List.set_cons_succ]
              refine WT_yes 14 rfl (by kernel_rfl) (fun _ _ _ _ _ h => h) (by rfl) ?_; apply Exists.intro; refine ⟨fun w1 hb1 => ?_, ?_⟩; (focus ((skip; have hb1 := Lib.hid hb1; go_simp); (try (go_bits; try go_simp)); (try (rw [if_pos (by omega)]; try go_simp)); (first | done | (fail) | (with_reducible rfl) | exact rfl)))
              simp only [Act.put, List.setIfInBounds_toArray, List.set_cons_zero, List.set_cons_succ]
              refine WT_yes 15 rfl (by kernel_rfl) (fun _ _ _ _ _ h => h) (by rfl) ?_; apply Exists.intro; refine ⟨fun w1 hb1 => ?_, ?_⟩; (focus (((obtain ⟨-, k9, -⟩ := K9.out.to (T.out.trans hb1)); have hb1 := Lib.hid hb1; go_simp); (try (go_bits; try go_simp)); (try (rw [if_pos (by omega)]; try go_simp)); (first | done | (fail) | (with_reducible rfl) | exact rfl)))
              simp only [Act.put, List.setIfInBounds_toArray, List.set_cons_zero, List.set_cons_succ]
              refine WT_yes 16 rfl (by kernel_rfl) (fun _ _ _ _ _ h => h) (by rfl) ?_; apply Exists.intro; refine ⟨fun w1 hb1 => ?_, ?_⟩; (focus (((obtain ⟨-, kbz, -⟩ := KBZ.out.to (T.out.trans hb1)); have hb1 := Lib.hid hb1; go_simp); (try (go_bits; try go_simp)); (try (rw [if_pos (by omega)]; try go_simp)); (first | done | (fail) | (with_reducible rfl) | exact rfl)))
              simp only [Act.put, List.setIfInBounds_toArray, List.set_cons_zero, List.set_cons_succ]
              refine WT_one 17 rfl (by kernel_rfl) ?_
              unfold stepT
              go_wp2_with fail
              refine (HC4.out _).mono ?_
              rintro e u5 ⟨rfl, hb⟩
              replace KBX := Lib.hid (KBX.out.to hb)
              have hbd := Lib.hid (hb.mono T.out.size)
              replace T := Lib.hid (bThen T.out hb)
              clear hb
              go_wp2_with fail
              refine ⟨hbd.out, ?_⟩
              clear hbd
              refine WT_yes 18 rfl (by kernel_rfl) (fun _ _ _ _ _ h => h) (by rfl) ?_; apply Exists.intro; refine ⟨fun w1 hb1 => ?_, ?_⟩; (focus ((skip; have hb1 := Lib.hid hb1; go_simp); (try (go_bits; try go_simp)); (try (rw [if_pos (by omega)]; try go_simp)); (first | done | (fail) | (with_reducible rfl) | exact rfl)))
              simp only [Act.put, List.setIfInBounds_toArray, List.set_cons_zero, List.set_cons_succ]
              refine WT_yes 19 rfl (by kernel_rfl) (fun _ _ _ _ _ h => h) (by rfl) ?_; apply Exists.intro; refine ⟨fun w1 hb1 => ?_, ?_⟩; (focus ((skip; have hb1 := Lib.hid hb1; go_simp); (try (go_bits; try go_simp)); (try (rw [if_pos (by omega)]; try go_simp)); (first | done | (fail) | (with_reducible rfl) | exact rfl)))
              simp only [Act.put, List.setIfInBounds_toArray, List.set_cons_zero, List.set_cons_succ]
              refine WT_yes 20 rfl (by kernel_rfl) (fun _ _ _ _ _ h => h) (by rfl) ⟨.agg #[.bool (decide (c2 ≤ 0)), .bool (decide (c4 ≤ 0))], fun w1 hb1 => (by go_simp), ?_⟩
              simp only [Act.put, List.setIfInBounds_toArray, List.set_cons_zero, List.set_cons_succ]
              refine WT_one 22 rfl (by kernel_rfl) ?_
              unfold stepT
              obtain ⟨-, kx, fx⟩ := KBX.out
              go_wp2_with fail
              clear kx fx
              obtain ⟨u6, hu⟩ : ∃ u, (u5.setCell ⟨BX, 0, none⟩ (.bool (decide (c2 ≤ 0)))).setCell ⟨BX, 1, none⟩ (.bool (decide (c4 ≤ 0))) = u := ⟨_, rfl⟩
              have hb : Below wp.heap.size u5 u6 := by rw [← hu]; exact ((Below.refl _ _).setCell (p := ⟨BX, 0, none⟩) BXN.out _).setCell (p := ⟨BX, 1, none⟩) BXN.out _
              replace KBX := Lib.hid ((KBX.out.set 0 (.bool (decide (c2 ≤ 0)))).set 1 (.bool (decide (c4 ≤ 0))))
              rw [hu] at KBX ⊢
              clear hu
              replace T := Lib.hid (T.out.trans hb)
              refine ⟨hb, ?_⟩
              clear hb
              refine WT_done (by kernel_rfl) ?_
              go_wp2_with fail
              go_meet
              case rel => exact ⟨BX, rfl, Lib.hid (by rw [HI1.out, HI2.out, G1.out, G3.out]; exact KBX.out), T⟩
      obtain ⟨B, rfl, KB, HWC⟩ := hcut
      replace HB := Lib.hid (bThen HB.out HWC.out)
      clear HWC K7 K9 KBA KBZ HC1 HC2 HC3 HC4 HI1 HI2
      obtain ⟨i1, hi1⟩ : ∃ i, insQ (p1, p2) lo hi = i := ⟨_, rfl⟩
      obtain ⟨i2, hi2⟩ : ∃ i, insQ (q1, q2) lo hi = i := ⟨_, rfl⟩
      rw [hi1, hi2] at HF6 HF7 KB
      clear hi1 hi2
      by_cases o2 : oc = 2
      · obtain ⟨rfl, rfl⟩ := HF6.out o2
        subst o2
        obtain ⟨-, kb, -⟩ := KB.out
        go_wp2_with fail
        go_ret
        exact ⟨rfl, HB.out⟩
      · have o2' : (oc != 2) = true := by simpa using o2
        by_cases o0 : oc = 0
        · obtain ⟨rfl, rfl⟩ := HF7.out o0
          subst o0
          clear o2 o2'
          obtain ⟨-, kb, -⟩ := KB.out
          go_wp2_with fail
          go_ret
          exact ⟨rfl, HB.out⟩
        · have o0' : (oc != 0) = true := by simpa using o0
          clear o2 o0
          go_wp2_with fail
          go_ret
          exact ⟨rfl, HB.out⟩
    · obtain rfl := HER.out h1
      have h1' : (ec != 0) = true := by simpa using h1
      clear h1 HER HFIN HRC
      go_wp2_with fail
      go_ret
      exact ⟨rfl, HB.out⟩
  · obtain ⟨⟨r1, r2⟩, ⟨r3, r4⟩, r5, r6⟩ := HBAD.out h0
    subst r1 r3 r5 r6
    injection r2 with r2 r2'
    injection r4 with r4 r4'
    subst r2 r2' r4 r4'
    have h0' : (ec != 0) = true := by simpa using h0
    clear h0 HBAD HOK HSA HSB HME HER HFIN HRC
    obtain ⟨-, k7, -⟩ := K7.out
    obtain ⟨-, k9, -⟩ := K9.out
    go_wp2_with fail
    go_ret
    exact ⟨rfl, HB.out⟩

end Go.Proofs.YtjfedpblkejmkaaGreat

