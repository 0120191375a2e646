/-
  Texts of this claim, in their build order: V7.
-/
import Derived.Test.YtmofgejoogikfaaTop35
import Derived.Test.YtmofgejoogikfaaTop36

/-
  CheckHalves of package hybrid.
-/
namespace Go.Proofs.Ytmofgejoogikfaa
open Go.RowKit

/-- The error of halves' shape, with those of chain and node. -/
def shE (ks fs : List Int) (nl nu : Nat) (node : Int) : Int := firstE [ndE ks fs node, unl (((nl : Int) == node + 1) && ((nu : Int) == (ks.length : Int) - node - 1)) 10]
/-- What CheckHalves answers. -/
def chH (ks fs : List Int) (ls us : List (Int × Int)) (F node : Int) : Int × Int :=
  if shE ks fs ls.length us.length node ≠ 0 then (0, shE ks fs ls.length us.length node) else
  if (eachR (fun k => frE (fg (ls ++ us) k)) 0 (ls ++ us).length).2 ≠ 0 then eachR (fun k => frE (fg (ls ++ us) k)) 0 (ls ++ us).length else
  if F ≠ (fs.drop (node.toNat + 1)).sum then (0, 13) else eachR (nbE ks fs (ls ++ us) F node.toNat) 0 (ls ++ us).length
theorem frE_zero {p : Int × Int} (h : frE p = 0) : SmF p := by
  have e := firstE_zero (show firstE [_, _] = 0 from h)
  have e1 := unl_zero (by decide) (e _ (List.mem_cons_self ..))
  have e2 := unl_zero (by decide) (e _ (List.mem_cons_of_mem _ (List.mem_cons_self ..)))
  unfold lowB at e1
  simp only [Bool.and_eq_true, decide_eq_true_eq] at e1 e2
  exact ⟨by omega, by omega, by omega, by omega⟩

theorem fg_app1 {l m : List (Int × Int)} {k : Nat} (h : k < l.length) : fg (l ++ m) k = fg l k := by
  unfold fg; rw [List.getD_eq_getElem?_getD, List.getD_eq_getElem?_getD, List.getElem?_append_left h]
theorem fg_app2 {l m : List (Int × Int)} {k : Nat} (h : l.length ≤ k) : fg (l ++ m) k = fg m (k - l.length) := by
  unfold fg; rw [List.getD_eq_getElem?_getD, List.getD_eq_getElem?_getD, List.getElem?_append_right h]
theorem i64_app {l m : List (Int × Int)} (h1 : ∀ k, k < l.length → I64 (fg l k)) (h2 : ∀ k, k < m.length → I64 (fg m k)) (k : Nat) (hk : k < (l ++ m).length) : I64 (fg (l ++ m) k) := by
  by_cases h : k < l.length
  · rw [fg_app1 h]; exact h1 k h
  · rw [fg_app2 (by omega)]; rw [List.length_append] at hk; exact h2 _ (by omega)
theorem shE_zero {ks fs : List Int} {nl nu : Nat} {node : Int} (h : shE ks fs nl nu node = 0) : ndE ks fs node = 0 ∧ (nl : Int) = node + 1 ∧ (nu : Int) = (ks.length : Int) - node - 1 := by
  have e := firstE_zero (show firstE [_, _] = 0 from h)
  have e1 := e _ (List.mem_cons_self ..)
  have e2 := unl_zero (by decide) (e _ (List.mem_cons_of_mem _ (List.mem_cons_self ..)))
  simp only [Bool.and_eq_true, beq_iff_eq] at e2
  exact ⟨e1, e2⟩

set_option maxHeartbeats 3200000 in
set_option maxRecDepth 100000 in
theorem CheckHalves_any (ks fs : List Int) (ls us : List (Int × Int)) (F node : Int) (a1 a2 b1 b2 : Option Addr) (c1 c2 d1 d2 : Nat) (w : World) (h1 : ks.length ≤ 1000) (h2 : fs.length ≤ 1000) (h3 : ls.length ≤ 100) (h4 : us.length ≤ 100) (hc2 : fs.length ≤ c2)
    (hn0 : -9223372036854775808 ≤ node) (hn1 : node ≤ 9223372036854775807) (hi1 : ∀ k, k < ls.length → I64 (fg ls k)) (hi2 : ∀ k, k < us.length → I64 (fg us k))
    (hr1 : Reads w a1 ks.length (ints ks)) (hr2 : Reads w a2 fs.length (ints fs)) (hr3 : Reads w b1 (ls.length * 2) (fracs ls)) (hr4 : Reads w b2 (us.length * 2) (fracs us)) :
    Calls Try.prog 19 #[.agg (chV a1 ks.length c1 a2 fs.length c2), .int .i64 node, .agg (hvV b1 ls.length d1 b2 us.length d2 F)] w
      fun e w' => e = .returned (.tuple #[.int .i64 (chH ks fs ls us F node).1, .int .i64 (chH ks fs ls us F node).2]) ∧ Below w.heap.size w w' := by
  have HNE := Lib.hid (fun W (hb : Below w.heap.size w W) => nodeErr_any ks fs node a1 a2 c1 c2 W h1 (hr1.to hb) (hr2.to hb))
  have HR1 := Lib.hid hr1
  have HR2 := Lib.hid hr2
  have HR3 := Lib.hid hr3
  have HR4 := Lib.hid hr4
  have HCH : Hid (∀ r, chH ks fs ls us F node = r → chH ks fs ls us F node = r) := Lib.hid (fun r h => h)
  obtain ⟨r, hr⟩ : ∃ r, chH ks fs ls us F node = r := ⟨_, rfl⟩
  obtain ⟨e0, he0⟩ : ∃ e, shE ks fs ls.length us.length node = e := ⟨_, rfl⟩
  obtain ⟨ne, hne⟩ : ∃ e, ndE ks fs node = e := ⟨_, rfl⟩
  have HE0 : Hid (firstE [ne, unl (((ls.length : Int) == node + 1) && ((us.length : Int) == (ks.length : Int) - node - 1)) 10] = e0) := Lib.hid (by rw [← he0, ← hne]; rfl)
  have HR := Lib.hid hr
  have HEE := Lib.hid he0
  have HNN := Lib.hid hne
  rw [hne] at HNE
  rw [hr]
  clear hr he0 hne hr1 hr2 hr3 hr4 HCH
  go_enter Try.func19, Try.ntmps19
  go_upto_region 1 with (fail)
  obtain ⟨w3, hw3⟩ : ∃ w3, ((w.alloc (.cells (chV a1 ks.length c1 a2 fs.length c2) 24)).alloc (.cells #[.int .i64 node] 3)).alloc (.cells (hvV b1 ls.length d1 b2 us.length d2 F) 45) = w3 := ⟨_, rfl⟩
  rw [hw3]
  have K3 : Hid (Blk w3 w.heap.size (chV a1 ks.length c1 a2 fs.length c2)) := by subst hw3; exact Lib.hid (((Blk.new _ _ _).alloc _).alloc _)
  have K4 : Hid (Blk w3 (w.heap.size + 1) #[.int .i64 node]) := by subst hw3; exact Lib.hid ((Blk.newAt _ _ _ (by simp)).alloc _)
  have K5 : Hid (Blk w3 (w.heap.size + 2) (hvV b1 ls.length d1 b2 us.length d2 F)) := by subst hw3; exact Lib.hid (Blk.newAt _ _ _ (by simp))
  have HB : Hid (Below w.heap.size w w3) := by subst hw3; exact Lib.hid (bAlloc (bAlloc (bAlloc (bSelf w) _) _) _)
  clear hw3
  have hs3 : w.heap.size + 2 < w3.heap.size := K5.out.1
  go_cut [8] (fun s8 wc => s8 = .int .i64 e0 ∧ Hid (Below w3.heap.size w3 wc))
  case first =>
    by_cases hq : (ls.length : Int) = node + 1
    · have hq1 : ((ls.length : Int) == node + 1) = true := by rw [beq_iff_eq]; exact hq
      rw [hq1, Bool.true_and] at HE0
      refine wp_region_quiet_tail 22 (fun w' => Below (World.heap w3).size (w3) w') (by kernel_rfl) (by kernel_rfl) (Below.refl _ _).drew ?_
      simp only [List.take_succ_cons, List.take_zero, List.drop_succ_cons, List.drop_zero]
      refine WQ.out ?_
      repeat (first | (refine WQ_no (by rfl) ?_; (simp only [Act.put, List.setIfInBounds_toArray, List.set_cons_zero, List.set_cons_succ])) | (refine WQ_yes (by rfl) ?_; apply Exists.intro; refine ⟨fun w1 hb1 => ?_, ?_⟩; (focus (((obtain ⟨-, k3, -⟩ := K3.out.to hb1; obtain ⟨-, k4, -⟩ := K4.out.to hb1; obtain ⟨-, k5, -⟩ := K5.out.to hb1); have hb1 := Lib.hid hb1; go_simp); (try (go_bits; try go_simp)); (try (rw [if_pos (by omega)]; try go_simp)); (first | done | ((first | (go_at_call 56; refine (HNE.out _ (bThen HB.out hb1.out)).mono ?_; rintro e w' ⟨rfl, hb2⟩; exact ⟨rfl, bThen hb1.out hb2⟩) | (go_at_call 67; refine (unless_any _ _ _).mono ?_; rintro e w' ⟨rfl, rfl⟩; exact ⟨rfl, hb1.out⟩))) | (with_reducible rfl) | exact rfl))); (simp only [Act.put, List.setIfInBounds_toArray, List.set_cons_zero, List.set_cons_succ])))
      refine WQ_nil ?_
      intro w1 hb1
      have HB4 := Lib.hid hb1
      clear hb1
      go_wp2_with fail
      refine (first2_new _ _ _ _ (by simp)).mono ?_
      rintro e w' ⟨rfl, rfl⟩
      rw [HE0.out]
      go_wp2_with fail
      go_meet
      case rel => exact ⟨rfl, Lib.hid (bAlloc HB4.out _)⟩
    · have hq1 : ((ls.length : Int) == node + 1) = false := by rw [beq_eq_false_iff_ne]; exact hq
      rw [hq1, Bool.false_and] at HE0
      by_cases hmx : node = 9223372036854775807
      · subst hmx
        have hq2 : ((ls.length : Int) == -9223372036854775808) = false := by rw [beq_eq_false_iff_ne]; omega
        have hwm : IntKind.i64.wrap 9223372036854775808 = -9223372036854775808 := by rfl
        refine wp_region_quiet_tail 22 (fun w' => Below (World.heap w3).size (w3) w') (by kernel_rfl) (by kernel_rfl) (Below.refl _ _).drew ?_
        simp only [List.take_succ_cons, List.take_zero, List.drop_succ_cons, List.drop_zero]
        refine WQ.out ?_
        repeat (first | (refine WQ_no (by rfl) ?_; (simp only [Act.put, List.setIfInBounds_toArray, List.set_cons_zero, List.set_cons_succ])) | (refine WQ_yes (by rfl) ?_; apply Exists.intro; refine ⟨fun w1 hb1 => ?_, ?_⟩; (focus (((obtain ⟨-, k3, -⟩ := K3.out.to hb1; obtain ⟨-, k4, -⟩ := K4.out.to hb1; obtain ⟨-, k5, -⟩ := K5.out.to hb1); have hb1 := Lib.hid hb1; go_simp); (try (go_bits; try go_simp)); (try (rw [if_pos (by omega)]; try go_simp)); (first | done | ((first | (go_at_call 56; refine (HNE.out _ (bThen HB.out hb1.out)).mono ?_; rintro e w' ⟨rfl, hb2⟩; exact ⟨rfl, bThen hb1.out hb2⟩) | (go_at_call 67; refine (unless_any _ _ _).mono ?_; rintro e w' ⟨rfl, rfl⟩; exact ⟨rfl, hb1.out⟩))) | (with_reducible rfl) | exact rfl))); (simp only [Act.put, List.setIfInBounds_toArray, List.set_cons_zero, List.set_cons_succ])))
        refine WQ_nil ?_
        intro w1 hb1
        have HB4 := Lib.hid hb1
        clear hb1
        go_wp2_with fail
        refine (first2_new _ _ _ _ (by simp)).mono ?_
        rintro e w' ⟨rfl, rfl⟩
        rw [HE0.out]
        go_wp2_with fail
        go_meet
        case rel => exact ⟨rfl, Lib.hid (bAlloc HB4.out _)⟩
      · skip
        refine wp_region_quiet_tail 22 (fun w' => Below (World.heap w3).size (w3) w') (by kernel_rfl) (by kernel_rfl) (Below.refl _ _).drew ?_
        simp only [List.take_succ_cons, List.take_zero, List.drop_succ_cons, List.drop_zero]
        refine WQ.out ?_
        repeat (first | (refine WQ_no (by rfl) ?_; (simp only [Act.put, List.setIfInBounds_toArray, List.set_cons_zero, List.set_cons_succ])) | (refine WQ_yes (by rfl) ?_; apply Exists.intro; refine ⟨fun w1 hb1 => ?_, ?_⟩; (focus (((obtain ⟨-, k3, -⟩ := K3.out.to hb1; obtain ⟨-, k4, -⟩ := K4.out.to hb1; obtain ⟨-, k5, -⟩ := K5.out.to hb1); have hb1 := Lib.hid hb1; go_simp); (try (go_bits; try go_simp)); (try (rw [if_pos (by omega)]; try go_simp)); (first | done | ((first | (go_at_call 56; refine (HNE.out _ (bThen HB.out hb1.out)).mono ?_; rintro e w' ⟨rfl, hb2⟩; exact ⟨rfl, bThen hb1.out hb2⟩) | (go_at_call 67; refine (unless_any _ _ _).mono ?_; rintro e w' ⟨rfl, rfl⟩; exact ⟨rfl, hb1.out⟩))) | (with_reducible rfl) | exact rfl))); (simp only [Act.put, List.setIfInBounds_toArray, List.set_cons_zero, List.set_cons_succ])))
        refine WQ_nil ?_
        intro w1 hb1
        have HB4 := Lib.hid hb1
        clear hb1
        go_wp2_with fail
        refine (first2_new _ _ _ _ (by simp)).mono ?_
        rintro e w' ⟨rfl, rfl⟩
        rw [HE0.out]
        go_wp2_with fail
        go_meet
        case rel => exact ⟨rfl, Lib.hid (bAlloc HB4.out _)⟩
  case rest =>
    obtain ⟨rfl, HB4⟩ := hcut
    obtain ⟨wo, hwo⟩ : ∃ wo, wo = wc := ⟨_, rfl⟩
    subst hwo
    replace K3 := Lib.hid (K3.out.to HB4.out)
    replace K4 := Lib.hid (K4.out.to HB4.out)
    replace K5 := Lib.hid (K5.out.to HB4.out)
    replace HB := Lib.hid (bThen HB.out HB4.out)
    clear HB4 hs3 HE0
    by_cases he : e0 = 0
    · subst he
      obtain ⟨hnd0, hl1, hl2⟩ := shE_zero HEE.out
      obtain ⟨hchk, hp0, hp1⟩ := ndE_zero hnd0
      have hok := chkC_zero hchk
      obtain ⟨nd, rfl⟩ : ∃ nd : Nat, node = nd := ⟨node.toNat, by omega⟩
      have hfew := hok.few
      have hlen := hok.len
      have hndn : nd < ks.length := by omega
      have hlA : ls.length = nd + 1 := by omega
      have hlB : us.length = ks.length - (nd + 1) := by omega
      have hln : (ls ++ us).length = ks.length := by rw [List.length_append]; omega
      have HCC := Lib.hid (fun W B (hB : Blk W B #[.slice b1 ls.length d1, .slice b2 us.length d2]) (hb : Below w.heap.size w W) => Concat_two ls us B b1 b2 d1 d2 W hB (by omega) (by omega) (by omega) (HR3.out.to hb) (HR4.out.to hb))
      have HI64 := Lib.hid (i64_app hi1 hi2)
      have HR' : Hid ((if (eachR (fun k => frE (fg (ls ++ us) k)) 0 ks.length).2 ≠ 0 then eachR (fun k => frE (fg (ls ++ us) k)) 0 ks.length else
  if F ≠ (fs.drop (nd + 1)).sum then (0, 13) else eachR (nbE ks fs (ls ++ us) F nd) 0 ks.length) = r) := Lib.hid (by
        rw [← HR.out]
        unfold chH
        rw [HEE.out, hln, if_neg (fun h : (0 : Int) ≠ 0 => h rfl)]
        rfl)
      obtain ⟨l, hl⟩ : ∃ l, ls ++ us = l := ⟨_, rfl⟩
      unfold FPost at HCC
      rw [hl] at HCC HI64 HR' hln
      rw [hln] at HCC HI64
      have HOK := Lib.hid hok
      have HLN := Lib.hid hln
      have HEA1 := Lib.hid (fun W a cap (hrd : Reads W a (ks.length * 2) (fracs l)) => each_frac l a cap 70 #[] W (fun k => frE (fg l k)) (by omega) (by intro args w; go_simp) (by rw [hln]; exact hrd) (fun k W' hk _ => by
        have := CheckHalves1_any (fg l k) k W' (HI64.out k (by omega))
        simpa using this))
      rw [hln] at HEA1
      have HLEN := Lib.hid hlen
      clear hl hok hln hchk hnd0 HR HEE HNE HNN HR3 HR4 hi1 hi2 hl1 hl2 hp0 hp1 hlA hlB hlen
      obtain ⟨r1, hr1⟩ : ∃ r, eachR (fun k => frE (fg l k)) 0 ks.length = r := ⟨_, rfl⟩
      have HR1E := Lib.hid hr1
      rw [hr1] at HEA1 HR'
      clear hr1
      obtain ⟨-, k5, -⟩ := K5.out
      go_wp2_with fail
      refine (HCC.out _ _ (Blk.new _ _ _) (bAlloc HB.out _)).mono ?_
      rintro e w5 ⟨al, cl, rfl, hcl, hrl, hb, -⟩
      have hbb := bThen (bAlloc (bSelf wo) (.cells #[.slice b1 ls.length d1, .slice b2 us.length d2] 35)) hb
      replace K3 := Lib.hid (K3.out.to hbb)
      replace K4 := Lib.hid (K4.out.to hbb)
      replace K5 := Lib.hid (K5.out.to hbb)
      replace HB := Lib.hid (bThen HB.out hbb)
      have HRL := Lib.hid hrl
      have HCL := Lib.hid hcl
      clear hbb hb hrl hcl k5 HCC
      have hs5 : w.heap.size + 2 < w5.heap.size := K5.out.1
      go_upto_region 5 with (fail)
      obtain ⟨w6, hw6⟩ : ∃ w6, w5.alloc (.cells #[.slice al ks.length cl] 35) = w6 := ⟨_, rfl⟩
      rw [hw6]
      have hb6 : Below w5.heap.size w5 w6 := by subst hw6; exact bAlloc (bSelf _) _
      have K9 : Hid (Blk w6 w5.heap.size #[.slice al ks.length cl]) := by subst hw6; exact Lib.hid (Blk.new _ _ _)
      replace K3 := Lib.hid (K3.out.to hb6)
      replace K4 := Lib.hid (K4.out.to hb6)
      replace K5 := Lib.hid (K5.out.to hb6)
      replace HB := Lib.hid (bThen HB.out hb6)
      replace HRL := Lib.hid (HRL.out.to hb6)
      clear hb6 hw6
      obtain ⟨B9, hB9⟩ : ∃ B, w5.heap.size = B := ⟨_, rfl⟩
      rw [hB9] at K9 hs5 ⊢
      clear hB9
      obtain ⟨-, k9, -⟩ := K9.out
      go_wp2_with fail
      refine (HEA1.out _ _ _ HRL.out).mono ?_
      rintro e w7 ⟨rfl, hb⟩
      replace K3 := Lib.hid (K3.out.to hb)
      replace K4 := Lib.hid (K4.out.to hb)
      replace K5 := Lib.hid (K5.out.to hb)
      replace K9 := Lib.hid (K9.out.to hb)
      replace HB := Lib.hid (bThen HB.out hb)
      replace HRL := Lib.hid (HRL.out.to hb)
      clear hb k9 HEA1
      obtain ⟨r1a, r1b⟩ := r1
      dsimp only
      dsimp only at HR'
      by_cases hr1b : r1b = 0
      · have hr1b' : (r1b != 0) = false := by simpa using hr1b
        rw [if_neg (by simpa using hr1b)] at HR'
        have HSM : Hid (∀ j, j < l.length → SmF (fg l j)) := Lib.hid (fun j hj => frE_zero (by
          have h := eachR_zero ks.length 0 (err := fun k => frE (fg l k)) (by rw [HR1E.out]; exact hr1b) j (by omega) (by rw [HLN.out] at hj; omega)
          exact h))
        clear hr1b
        have hln : l.length = ks.length := HLN.out
        have hlen : fs.length = ks.length := HLEN.out
        obtain ⟨o2, q2, rfl, -, -⟩ := HR2.out.at (k := nd) (by omega)
        have HF0 : Hid (-8000 ≤ (fs.drop (nd + 1)).sum ∧ (fs.drop (nd + 1)).sum ≤ 8000) := Lib.hid (by
          have h := @suml_bd (fs.drop (nd + 1)) (fun k hk => by rw [gi_dropk]; rw [List.length_drop] at hk; exact HOK.out.f1 _ (by omega))
          rw [List.length_drop] at h
          omega)
        have HSUM : Hid (c2 ≠ nd + 1 → ∀ W, Below w.heap.size w W → Calls Try.prog 58 #[.slice (some ⟨o2, q2 + (nd + 1), none⟩) (fs.length - (nd + 1)) (c2 - (nd + 1))] W fun e w' => e = .returned (.int .i64 (fs.drop (nd + 1)).sum) ∧ W = w') := Lib.hid (fun _ W hb => by
          have := sum_any (fs.drop (nd + 1)) (some ⟨o2, q2 + (nd + 1), none⟩) (c2 - (nd + 1)) W (by rw [List.length_drop]; omega) (fun k hk => by rw [gi_dropk]; rw [List.length_drop] at hk; exact HOK.out.f1 _ (by omega)) (Reads.dropI (HR2.out.to hb) (by omega))
          rw [List.length_drop] at this
          exact this)
        have HSUM0 : Hid (c2 = nd + 1 → ∀ W, Calls Try.prog 58 #[.slice (some ⟨o2, q2, none⟩) 0 0] W fun e w' => e = .returned (.int .i64 (fs.drop (nd + 1)).sum) ∧ W = w') := Lib.hid (fun hc W => by
          have := sum_any [] (some ⟨o2, q2, none⟩) 0 W (by simp) (fun k hk => by simp at hk) (.inl rfl)
          have e : fs.drop (nd + 1) = [] := List.drop_of_length_le (by omega)
          rw [e]
          exact this)
        have HEA2 := Lib.hid (fun (hF0 : -8000 ≤ F) (hF1 : F ≤ 8000) W (hb : Below w7.heap.size w7 W) => each_frac l al cl 73 #[.pointer (some ⟨w.heap.size, 0, none⟩), .pointer (some ⟨B9, 0, none⟩), .pointer (some ⟨w.heap.size + 1, 0, none⟩), .pointer (some ⟨w.heap.size + 2, 0, none⟩)] W (nbE ks fs l F nd) (by omega) (by intro args w; go_simp) (by rw [hln]; exact HRL.out.to hb) (fun k W' hk hb' => by
          have := CheckHalves2_any ks fs l F nd k w.heap.size B9 (w.heap.size + 1) (w.heap.size + 2) a1 (some ⟨o2, q2, none⟩) al b1 b2 c1 c2 cl ls.length d1 us.length d2 W' HOK.out hln (by omega) hF0 hF1 HSM.out
            (by have h := ((K3.out.to hb).to hb'); rw [hlen] at h; exact h) ((K9.out.to hb).to hb') ((K4.out.to hb).to hb') ((K5.out.to hb).to hb') (((HR1.out.to HB.out).to hb).to hb') (by have h := ((HR2.out.to HB.out).to hb).to hb'; rw [hlen] at h; exact h) ((HRL.out.to hb).to hb')
          simpa using this))
        rw [hln] at HEA2
        obtain ⟨SV, hSV⟩ : ∃ s, (fs.drop (nd + 1)).sum = s := ⟨_, rfl⟩
        rw [hSV] at HSUM HSUM0 HF0 HR'
        obtain ⟨r2, hr2⟩ : ∃ r2, eachR (nbE ks fs l F nd) 0 ks.length = r2 := ⟨_, rfl⟩
        rw [hr2] at HEA2 HR'
        have hle : nd + 1 ≤ fs.length := by omega
        have hle2 : nd + 1 ≤ c2 := by omega
        clear hSV hr2 hlen hln HR1 HR2 HSM HOK HI64 HR1E
        have hs7 : w.heap.size + 2 < w7.heap.size := K5.out.1
        obtain ⟨-, k9, -⟩ := K9.out
        go_upto_region 8 with (fail)
        clear k9
        go_cut [62] (fun s62 wc => s62 = .bool (F != SV) ∧ Hid (Below w7.heap.size w7 wc))
        case first =>
          by_cases hcc : c2 = nd + 1
          · have hcc2 := hcc
            subst hcc2
            refine wp_region_quiet_all (fun w' => Below (World.heap w7).size (w7) w') (by kernel_rfl) (by kernel_rfl) (Below.refl _ _).drew ?_
            refine WQ.out ?_
            repeat (first | (refine WQ_no (by rfl) ?_; (simp only [Act.put, List.setIfInBounds_toArray, List.set_cons_zero, List.set_cons_succ])) | (refine WQ_yes (by rfl) ?_; apply Exists.intro; refine ⟨fun w1 hb1 => ?_, ?_⟩; (focus (((obtain ⟨-, k3, -⟩ := K3.out.to hb1; obtain ⟨-, k4, -⟩ := K4.out.to hb1; obtain ⟨-, k5, -⟩ := K5.out.to hb1); have hb1 := Lib.hid hb1; go_simp); (try (go_bits; try go_simp)); (try (rw [if_pos (by omega)]; try go_simp)); (first | done | ((go_at_call 58; refine (HSUM0.out hcc _).mono ?_; rintro e w' ⟨rfl, rfl⟩; exact ⟨rfl, hb1.out⟩)) | (with_reducible rfl) | exact rfl))); (simp only [Act.put, List.setIfInBounds_toArray, List.set_cons_zero, List.set_cons_succ])))
            refine WQ_nil ?_
            intro w1 hb1
            have hbb := Lib.hid hb1
            clear hb1
            go_wp2_with fail
            go_meet
            case rel => exact ⟨rfl, hbb⟩
          · skip
            refine wp_region_quiet_all (fun w' => Below (World.heap w7).size (w7) w') (by kernel_rfl) (by kernel_rfl) (Below.refl _ _).drew ?_
            refine WQ.out ?_
            repeat (first | (refine WQ_no (by rfl) ?_; (simp only [Act.put, List.setIfInBounds_toArray, List.set_cons_zero, List.set_cons_succ])) | (refine WQ_yes (by rfl) ?_; apply Exists.intro; refine ⟨fun w1 hb1 => ?_, ?_⟩; (focus (((obtain ⟨-, k3, -⟩ := K3.out.to hb1; obtain ⟨-, k4, -⟩ := K4.out.to hb1; obtain ⟨-, k5, -⟩ := K5.out.to hb1); have hb1 := Lib.hid hb1; go_simp); (try (go_bits; try go_simp)); (try (rw [if_pos (by omega)]; try go_simp)); (first | done | ((go_at_call 58; refine (HSUM.out hcc _ (bThen HB.out hb1.out)).mono ?_; rintro e w' ⟨rfl, rfl⟩; exact ⟨rfl, hb1.out⟩)) | (with_reducible rfl) | exact rfl))); (simp only [Act.put, List.setIfInBounds_toArray, List.set_cons_zero, List.set_cons_succ])))
            refine WQ_nil ?_
            intro w1 hb1
            have hbb := Lib.hid hb1
            clear hb1
            go_wp2_with fail
            go_meet
            case rel => exact ⟨rfl, hbb⟩
        case rest =>
          obtain ⟨rfl, HBC⟩ := hcut
          obtain ⟨wq, hwq⟩ : ∃ wq, wq = wc := ⟨_, rfl⟩
          subst hwq
          have HB9 := Lib.hid (bThen HB.out HBC.out)
          replace K9 := Lib.hid (K9.out.to HBC.out)
          clear HSUM HSUM0
          by_cases hF : F = SV
          · have hF0' : (F != SV) = false := by rw [hF]; simp
            rw [if_neg (by simpa using hF)] at HR'
            have HE2 := Lib.hid (HEA2.out (by have := HF0.out; omega) (by have := HF0.out; omega) _ HBC.out)
            clear hF HEA2 HF0
            rw [hF0']
            obtain ⟨-, k9, -⟩ := K9.out
            go_wp2_with fail
            refine HE2.out.mono ?_
            rintro e w8 ⟨rfl, hb⟩
            have HBZ := Lib.hid (bThen HB9.out hb)
            clear hb k9
            go_wp2_with fail
            go_ret2
            rw [← HR'.out]
            exact ⟨rfl, HBZ.out⟩
          · have hF0' : (F != SV) = true := by simpa using hF
            rw [if_pos hF] at HR'
            clear hF HEA2 HF0
            rw [hF0']
            go_wp2_with fail
            go_ret2
            rw [← HR'.out]
            exact ⟨rfl, HB9.out⟩
      · have hr1b' : (r1b != 0) = true := by simpa using hr1b
        rw [if_pos hr1b] at HR'
        clear hr1b
        go_wp2_with fail
        go_ret2
        rw [← HR'.out]
        exact ⟨rfl, HB.out⟩
    · have he' : (e0 != 0) = true := by simpa using he
      have HRR : Hid (r = (0, e0)) := Lib.hid (by
        rw [← HR.out]
        unfold chH
        rw [HEE.out, if_pos he])
      clear he
      go_wp2_with fail
      go_ret2
      rw [HRR.out]
      exact ⟨rfl, HB.out⟩

end Go.Proofs.Ytmofgejoogikfaa

