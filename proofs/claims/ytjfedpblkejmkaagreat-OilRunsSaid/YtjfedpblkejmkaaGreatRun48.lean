/-
  Texts of this claim, in their build order: OL4.
-/
import Derived.Test.YtjfedpblkejmkaaGreatRun42
import Derived.Test.YtjfedpblkejmkaaGreatRun47

/-
  OilRuns.
-/
namespace Go.Proofs.YtjfedpblkejmkaaGreat
open Go.RowKit
attribute [local go_sem] Oper.semAt_some

theorem lFew_any (p : Plt) (a : Option Addr) (cap : Nat) (w : World) :
    Calls Tryz.prog 23 #[.agg (plC p a cap)] w fun e w' => e = .returned (.bool (decide ((p.pts.length : Int) ≤ 10))) ∧ Below w.heap.size w w' := by
  obtain ⟨l, pump, on, off⟩ := p
  unfold plC
  dsimp only
  obtain ⟨n, hn⟩ : ∃ n, l.length = n := ⟨_, rfl⟩
  rw [hn]
  clear hn
  go_enter Tryz.func23, Tryz.ntmps23
  go_wp2_with fail
  go_ret
  exact ⟨rfl, bAlloc (bSelf w) _⟩

theorem stE_eq (p : Plt) (s : OSt) : opSE p s.1 = if (chP p).2 = 0 then stE p s.1 else (chP p).2 := rfl
theorem run_bad {p : Plt} {s : OSt} {ds : List Int} (h : opSE p s.1 ≠ 0) : rnR p s ds = opSE p s.1 ∧ runO p s ds = [] ∧ nexR p s 0 = opSE p s.1 := by
  have e1 : runE0 p s ds.length = opSE p s.1 := by unfold runE0 firstE; rw [if_neg h]
  have e2 : nexE p s 0 = opSE p s.1 := by unfold nexE firstE; rw [if_neg h]
  have e3 : rnR p s ds = opSE p s.1 := by unfold rnR; rw [e1, if_neg h]
  exact ⟨e3, by unfold runO; rw [e3, if_neg h], by unfold nexR; rw [e2, if_neg h]⟩

theorem runA_len (p : Plt) : ∀ (ds : List Int) (s : OSt), (runA p s ds).1.length ≤ ds.length
  | [], s => by simp [runA]
  | d :: ds, s => by
    unfold runA
    by_cases hf : wthn d 0 50 = false
    · rw [if_pos hf]; simp
    · rw [if_neg hf]
      cases hn : nxtA p s d with
      | none => simp
      | some t =>
        have := runA_len p ds t
        simp only [List.length_cons]
        omega
theorem runO_len (p : Plt) (s : OSt) (ds : List Int) : (runO p s ds).length ≤ ds.length + 1 := by
  unfold runO
  split
  · have := runA_len p ds s
    simp only [List.length_cons]
    omega
  · simp
theorem nex_val {p : Plt} {s : OSt} {d : Int} (h : opSE p s.1 = 0) : nexR p s d = (if wthn d 0 50 = true then unl (nxtA p s d).isSome 22 else 2) ∧ nexP p s d = if wthn d 0 50 = true then (nxtA p s d).getD (0, false) else (0, false) := by
  have e : nexE p s d = if wthn d 0 50 = true then 0 else 2 := by
    unfold nexE firstE
    rw [if_pos h]
    unfold firstE
    cases wthn d 0 50 <;> rfl
  unfold nexR nexP
  rw [e]
  cases wthn d 0 50
  · exact ⟨rfl, rfl⟩
  · exact ⟨rfl, rfl⟩
theorem opSE_st {p : Plt} {s t : OSt} (h : opSE p s.1 = 0) (ht : StOk p t) : opSE p t.1 = 0 := by
  unfold opSE at h ⊢
  by_cases h1 : (chP p).2 = 0
  · rw [if_pos h1, unlZ (by decide)]
    have h2 : 0 ≤ t.1 ∧ t.1 ≤ capV p.pts := ht
    simp [h2.1, h2.2]
  · rw [if_neg h1] at h; exact absurd h h1
theorem runA_step (p : Plt) : ∀ (ds : List Int) (s : OSt) (k : Nat), opSE p s.1 = 0 → k + 1 < (s :: (runA p s ds).1).length →
    k < ds.length ∧ nexR p (sg (s :: (runA p s ds).1) k) (gi ds k) = 0 ∧ nexP p (sg (s :: (runA p s ds).1) k) (gi ds k) = sg (s :: (runA p s ds).1) (k + 1)
  | [], s, k, h, hk => by simp [runA] at hk
  | d :: ds, s, k, h, hk => by
    unfold runA at hk ⊢
    by_cases hf : wthn d 0 50 = false
    · rw [if_pos hf] at hk; simp at hk
    · rw [if_neg hf] at hk ⊢
      have hf' : wthn d 0 50 = true := by simpa using hf
      cases hn : nxtA p s d with
      | none => rw [hn] at hk; simp at hk
      | some t =>
        rw [hn] at hk
        dsimp only at hk ⊢
        cases k with
        | zero =>
          obtain ⟨e1, e2⟩ := nex_val (d := d) h
          rw [if_pos hf', hn] at e1 e2
          exact ⟨by simp, e1, e2⟩
        | succ k =>
          obtain ⟨i1, i2, i3⟩ := runA_step p ds t k (opSE_st h (nxtA_ok hn)) (by simp only [List.length_cons] at hk ⊢; omega)
          exact ⟨by simp only [List.length_cons]; omega, i2, i3⟩
theorem runO_step {p : Plt} {s : OSt} {ds : List Int} {k : Nat} (h : opSE p s.1 = 0) (hk : k + 1 < (runO p s ds).length) :
    k < ds.length ∧ nexR p (sg (runO p s ds) k) (gi ds k) = 0 ∧ nexP p (sg (runO p s ds) k) (gi ds k) = sg (runO p s ds) (k + 1) := by
  unfold runO at hk ⊢
  split at hk
  · rename_i h0
    rw [if_pos h0]
    exact runA_step p ds s k h hk
  · simp at hk

set_option maxHeartbeats 12800000 in
set_option maxRecDepth 100000 in
theorem OilRuns_any (p : Plt) (s : OSt) (ds : List Int) (a ad : Option Addr) (cap cd : Nat) (w : World) (hld : ds.length ≤ maxLen) (hr : Reads w a (p.pts.length * 2) (fracs p.pts)) (hrd : Reads w ad ds.length (ints ds)) :
    Calls Tryz.prog 4 #[.agg (plC p a cap), .agg #[.int .i64 s.1, .bool s.2], .slice ad ds.length cd] w fun e w' => e = .returned (.bool true) ∧ Below w.heap.size w w' := by
  have HAW := Lib.hid (fun W => oAwake_any W)
  have HFW := Lib.hid (fun W => lFew_any p a cap W)
  have HCPY := Lib.hid (fun W (h10 : p.pts.length ≤ 10) (hb : Below w.heap.size w W) => rCopyPlant_any p a cap W (by omega) (hr.to hb))
  have HCI := Lib.hid (fun W (h22 : ds.length ≤ 22) (hb : Below w.heap.size w W) => CopyInts_any ds ad cd W (by omega) (hrd.to hb))
  have HRO := Lib.hid (fun W a1 c1 a2 c2 (h10 : p.pts.length ≤ 10) h1 h2 => oRunOf_any p s ds a1 a2 c1 c2 W (by omega) hld h1 h2)
  have HNX := Lib.hid (fun W a1 c1 (t : OSt) d (h10 : p.pts.length ≤ 10) h1 => oNext_any p t d a1 c1 W (by omega) h1)
  have HPE := Lib.hid (fun W (h10 : p.pts.length ≤ 10) (hb : Below w.heap.size w W) => rPlantErr_any p a cap W (by omega) (hr.to hb))
  have HSE := Lib.hid (fun W (h10 : p.pts.length ≤ 10) (h0 : (chP p).2 = 0) (hb : Below w.heap.size w W) => rStateErr_any p s a cap W (by have := (chP_ok h0).pts.two; omega) (by omega) (hr.to hb))
  have HRN := Lib.hid (fun W (h0 : opSE p s.1 = 0) (hb : Below w.heap.size w W) => rnRun_any p s ds a ad cap cd W h0 hld (hr.to hb) (hrd.to hb))
  have HNR := Lib.hid (fun W (h0 : opSE p s.1 = 0) d (hd : 0 ≤ d ∧ d ≤ 50) (hb : Below w.heap.size w W) => rnNext_any p s d a cap W (opSE_ok h0).1 (opSE_ok h0).2 hd (hr.to hb))
  have HOP := Lib.hid (stE_eq p s)
  have HBAD := Lib.hid (fun h => run_bad (p := p) (s := s) (ds := ds) h)
  have HDR := Lib.hid hrd
  have HSS := Lib.hid (fun W a b ca cb (h22 : ds.length ≤ 22) h1 h2 => SameStates_any (runO p s ds) (runO p s ds) a b ca cb W (by have := runO_len p s ds; unfold maxLen; omega) h1 h2)
  have HST := Lib.hid (fun k (h0 : opSE p s.1 = 0) (hk : k + 1 < (runO p s ds).length) => runO_step h0 hk)
  have HRL := Lib.hid (runO_len p s ds)
  have HNV := Lib.hid (fun d (h0 : opSE p s.1 = 0) => nex_val (d := d) h0)
  obtain ⟨n, hn⟩ : ∃ n, ds.length = n := ⟨_, rfl⟩
  have HN := Lib.hid hn
  obtain ⟨m, hm⟩ : ∃ n, p.pts.length = n := ⟨_, rfl⟩
  obtain ⟨ch, hch⟩ : ∃ n, (chP p).2 = n := ⟨_, rfl⟩
  obtain ⟨st, hst⟩ : ∃ n, stE p s.1 = n := ⟨_, rfl⟩
  obtain ⟨o, ho⟩ : ∃ n, opSE p s.1 = n := ⟨_, rfl⟩
  obtain ⟨rn, hrn⟩ : ∃ n, rnR p s ds = n := ⟨_, rfl⟩
  obtain ⟨ro, hro⟩ : ∃ n, runO p s ds = n := ⟨_, rfl⟩
  have HRNE := Lib.hid hrn
  have HROE := Lib.hid hro
  rw [hn] at HRL HSS HCI HRO HRN HDR hld HST ⊢
  rw [hm] at HFW HCPY HRO HNX HPE HSE
  rw [hch] at HPE HSE HOP
  rw [hst] at HSE HOP
  rw [ho] at HOP HBAD HRN HNR HST HNV
  rw [hrn] at HRO HRN HBAD
  rw [hro] at HRL HRO HRN HBAD HST HSS
  have HO := Lib.hid ho
  have HM := Lib.hid hm
  clear hn hch hst ho hrn hro hr hrd
  obtain ⟨s1, sr⟩ := s
  unfold plC at HFW HCPY HRO HNX HPE HSE HNR HRN ⊢
  dsimp only at HFW HCPY HRO HNX HPE HSE HNR HRN HOP HBAD hld ⊢
  rw [hm] at HFW HCPY HRO HNX HPE HSE HNR HRN ⊢
  clear hm
  go_enter Tryz.func4, Tryz.ntmps4
  go_wp2_with fail
  obtain ⟨W, hW⟩ : ∃ W, (w.alloc (.cells #[.slice a m cap, .int .i64 p.pump, .int .i64 p.on, .int .i64 p.off] 44)).alloc (.cells #[.int .i64 s1, .bool sr] 46) = W := ⟨_, rfl⟩
  rw [hW]
  have K3 : Hid (Blk W w.heap.size #[.slice a m cap, .int .i64 p.pump, .int .i64 p.on, .int .i64 p.off]) := by subst hW; exact Lib.hid ((Blk.new _ _ _).alloc _)
  have K4 : Hid (Blk W (w.heap.size + 1) #[.int .i64 s1, .bool sr]) := by subst hW; exact Lib.hid (Blk.newAt _ _ _ (by simp))
  have HB : Hid (Below w.heap.size w W) := by subst hW; exact Lib.hid (bAlloc (bAlloc (bSelf w) _) _)
  clear hW
  refine (HAW.out _).mono ?_
  rintro e w1 ⟨rfl, hb⟩
  replace K3 := Lib.hid (K3.out.to hb)
  replace K4 := Lib.hid (K4.out.to hb)
  replace HB := Lib.hid (bThen HB.out hb)
  clear hb
  obtain ⟨-, k3, -⟩ := K3.out
  go_wp2_with fail
  refine (HFW.out _).mono ?_
  rintro e w2 ⟨rfl, hb⟩
  replace K3 := Lib.hid (K3.out.to hb)
  replace K4 := Lib.hid (K4.out.to hb)
  replace HB := Lib.hid (bThen HB.out hb)
  clear hb k3 HAW HFW
  by_cases h10 : m ≤ 10
  case neg =>
    rw [decide_eq_false (show ¬ ((m : Int) ≤ 10) by omega)]
    go_wp2_with fail
    go_ret
    exact ⟨rfl, HB.out⟩
  rw [decide_eq_true (show ((m : Int) ≤ 10) by omega)]
  by_cases h22 : n ≤ 22
  case neg =>
    go_wp2_with fail
    go_ret
    exact ⟨rfl, HB.out⟩
  go_wp2_with fail
  go_cut [7, 8] from 30 to 38 (fun s7 s8 wc => ∃ al cl, s7 = .slice al ro.length cl ∧ s8 = .int .i64 rn ∧ Hid (Reads wc al (ro.length * 2) (osts ro)) ∧ Hid (Below w2.heap.size w2 wc))
  case first =>
    refine wp_region_tree (by kernel_rfl) (fun wd hwd => ?_)
    have T := Lib.hid hwd
    clear hwd
    refine WT_yes 0 rfl (by kernel_rfl) (fun _ _ _ _ _ h => h) (by rfl) ?_; apply Exists.intro; refine ⟨fun w1 hb1 => ?_, ?_⟩; (focus (((obtain ⟨-, k3, -⟩ := K3.out.to (T.out.trans hb1)); have hb1 := Lib.hid hb1; go_simp); (try (go_bits; try go_simp)); (try (rw [if_pos (by omega)]; try go_simp)); (first | done | (fail) | (with_reducible rfl) | exact rfl)))
    simp only [Act.put, List.setIfInBounds_toArray, List.set_cons_zero, List.set_cons_succ]
    refine WT_yes 2 rfl (by kernel_rfl) (fun _ _ _ _ _ h => h) (by rfl) ?_; apply Exists.intro; refine ⟨fun w1 hb1 => ?_, ?_⟩; (focus (((obtain ⟨-, k4, -⟩ := K4.out.to (T.out.trans hb1)); have hb1 := Lib.hid hb1; go_simp); (try (go_bits; try go_simp)); (try (rw [if_pos (by omega)]; try go_simp)); (first | done | (fail) | (with_reducible rfl) | exact rfl)))
    simp only [Act.put, List.setIfInBounds_toArray, List.set_cons_zero, List.set_cons_succ]
    refine WT_yes 3 rfl (by kernel_rfl) (fun _ _ _ _ _ h => h) (by rfl) ?_; apply Exists.intro; refine ⟨fun w1 hb1 => ?_, ?_⟩; (focus ((skip; have hb1 := Lib.hid hb1; go_simp); (try (go_bits; try go_simp)); (try (rw [if_pos (by omega)]; try go_simp)); (first | done | (fail) | (with_reducible rfl) | exact rfl)))
    simp only [Act.put, List.setIfInBounds_toArray, List.set_cons_zero, List.set_cons_succ]
    refine WT_one 1 rfl (by kernel_rfl) ?_
    unfold stepT
    go_wp2_with fail
    refine (HCPY.out _ h10 (bThen HB.out T.out)).mono ?_
    rintro e u1 ⟨a1, c1, rfl, -, hr1, hb, -⟩
    have HR1 := Lib.hid hr1
    clear hr1
    unfold plC
    rw [HM.out] at HR1 ⊢
    have hbd := Lib.hid (hb.mono T.out.size)
    replace T := Lib.hid (bThen T.out hb)
    clear hb
    go_wp2_with fail
    refine ⟨hbd.out, ?_⟩
    clear hbd
    refine WT_one 4 rfl (by kernel_rfl) ?_
    unfold stepT
    go_wp2_with fail
    refine (HCI.out _ h22 (bThen HB.out T.out)).mono ?_
    rintro e u2 ⟨a2, c2, rfl, -, hr2, hb, -⟩
    have HR2 := Lib.hid hr2
    clear hr2
    replace HR1 := Lib.hid (HR1.out.to hb)
    have hbd := Lib.hid (hb.mono T.out.size)
    replace T := Lib.hid (bThen T.out hb)
    clear hb
    go_wp2_with fail
    refine ⟨hbd.out, ?_⟩
    clear hbd
    refine WT_one 5 rfl (by kernel_rfl) ?_
    unfold stepT
    go_wp2_with fail
    refine (HRO.out _ _ _ _ _ h10 HR1.out HR2.out).mono ?_
    rintro e u3 ⟨a3, c3, rfl, -, hr3, hb, -⟩
    have HR3 := Lib.hid hr3
    clear hr3 HR1 HR2
    have hbd := Lib.hid (hb.mono T.out.size)
    replace T := Lib.hid (bThen T.out hb)
    clear hb
    go_wp2_with fail
    refine ⟨hbd.out, ?_⟩
    clear hbd
    refine WT_yes 6 rfl (by kernel_rfl) (fun _ _ _ _ _ h => h) (by rfl) ?_; apply Exists.intro; refine ⟨fun w1 hb1 => ?_, ?_⟩; (focus ((skip; have hb1 := Lib.hid hb1; go_simp); (try (go_bits; try go_simp)); (try (rw [if_pos (by omega)]; try go_simp)); (first | done | (fail) | (with_reducible rfl) | exact rfl)))
    simp only [Act.put, List.setIfInBounds_toArray, List.set_cons_zero, List.set_cons_succ]
    refine WT_yes 7 rfl (by kernel_rfl) (fun _ _ _ _ _ h => h) (by rfl) ?_; apply Exists.intro; refine ⟨fun w1 hb1 => ?_, ?_⟩; (focus ((skip; have hb1 := Lib.hid hb1; go_simp); (try (go_bits; try go_simp)); (try (rw [if_pos (by omega)]; try go_simp)); (first | done | (fail) | (with_reducible rfl) | exact rfl)))
    simp only [Act.put, List.setIfInBounds_toArray, List.set_cons_zero, List.set_cons_succ]
    refine WT_yes 8 rfl (by kernel_rfl) (fun _ _ _ _ _ h => h) (by rfl) ?_; apply Exists.intro; refine ⟨fun w1 hb1 => ?_, ?_⟩; (focus ((skip; have hb1 := Lib.hid hb1; go_simp); (try (go_bits; try go_simp)); (try (rw [if_pos (by omega)]; try go_simp)); (first | done | (fail) | (with_reducible rfl) | exact rfl)))
    simp only [Act.put, List.setIfInBounds_toArray, List.set_cons_zero, List.set_cons_succ]
    refine WT_yes 9 rfl (by kernel_rfl) (fun _ _ _ _ _ h => h) (by rfl) ?_; apply Exists.intro; refine ⟨fun w1 hb1 => ?_, ?_⟩; (focus ((skip; have hb1 := Lib.hid hb1; go_simp); (try (go_bits; try go_simp)); (try (rw [if_pos (by omega)]; try go_simp)); (first | done | (fail) | (with_reducible rfl) | exact rfl)))
    simp only [Act.put, List.setIfInBounds_toArray, List.set_cons_zero, List.set_cons_succ]
    refine WT_yes 10 rfl (by kernel_rfl) (fun _ _ _ _ _ h => h) (by rfl) ?_; apply Exists.intro; refine ⟨fun w1 hb1 => ?_, ?_⟩; (focus ((skip; have hb1 := Lib.hid hb1; go_simp); (try (go_bits; try go_simp)); (try (rw [if_pos (by omega)]; try go_simp)); (first | done | (fail) | (with_reducible rfl) | exact rfl)))
    simp only [Act.put, List.setIfInBounds_toArray, List.set_cons_zero, List.set_cons_succ]
    refine WT_done (by kernel_rfl) ?_
    go_wp2_with fail
    go_meet
    case rel => exact ⟨a3, c3, rfl, rfl, HR3, T⟩
  obtain ⟨wo, hwo⟩ : ∃ wo, wo = wc := ⟨_, rfl⟩
  subst hwo
  obtain ⟨al, cl, rfl, rfl, HL, hb⟩ := hcut
  replace hb := hb.out
  replace K3 := Lib.hid (K3.out.to hb)
  replace K4 := Lib.hid (K4.out.to hb)
  replace HB := Lib.hid (bThen HB.out hb)
  clear hb HCI HRO
  by_cases h0 : o = 0
  case neg =>
    obtain ⟨e1, e2, HE3⟩ := HBAD.out h0
    replace HE3 := Lib.hid HE3
    subst e1 e2
    clear HBAD HRN HNR
    have hb1 : (rn != 0) = true := by simpa using h0
    have hb2 : (rn == 0) = false := by simpa using h0
    by_cases hc : ch = 0
    · subst hc
      rw [if_pos rfl] at HOP
      obtain rfl : rn = st := HOP.out
      obtain ⟨-, k3, -⟩ := K3.out
      go_wp2_with fail
      refine (HPE.out _ h10 HB.out).mono ?_
      rintro e w5 ⟨rfl, hb⟩
      replace K3 := Lib.hid (K3.out.to hb)
      replace K4 := Lib.hid (K4.out.to hb)
      replace HB := Lib.hid (bThen HB.out hb)
      replace HL := Lib.hid (HL.out.to hb)
      clear hb k3 HPE
      obtain ⟨-, k3, -⟩ := K3.out
      obtain ⟨-, k4, -⟩ := K4.out
      go_wp2_with fail
      refine (HSE.out _ h10 (by first | trivial | rfl) HB.out).mono ?_
      rintro e w6 ⟨rfl, hb⟩
      replace K3 := Lib.hid (K3.out.to hb)
      replace K4 := Lib.hid (K4.out.to hb)
      replace HB := Lib.hid (bThen HB.out hb)
      replace HL := Lib.hid (HL.out.to hb)
      clear hb k3 k4 HSE
      go_wp2_with fail
      have HNB := Lib.hid (fun W a1 c1 h => HNX.out W a1 c1 (s1, sr) 0 h10 h)
      obtain ⟨nx, hnx⟩ : ∃ x, nexP p (s1, sr) 0 = x := ⟨_, rfl⟩
      rw [hnx, HE3.out] at HNB
      obtain ⟨x1, x2⟩ := nx
      dsimp only at HNB
      clear hnx HNX
      refine wp_region_tree (by kernel_rfl) (fun wd hwd => ?_)
      have T := Lib.hid hwd
      clear hwd
      refine WT_yes 0 rfl (by kernel_rfl) (fun _ _ _ _ _ h => h) (by rfl) ?_; apply Exists.intro; refine ⟨fun w1 hb1 => ?_, ?_⟩; (focus (((obtain ⟨-, k3, -⟩ := K3.out.to (T.out.trans hb1)); have hb1 := Lib.hid hb1; go_simp); (try (go_bits; try go_simp)); (try (rw [if_pos (by omega)]; try go_simp)); (first | done | (fail) | (with_reducible rfl) | exact rfl)))
      simp only [Act.put, List.setIfInBounds_toArray, List.set_cons_zero, List.set_cons_succ]
      refine WT_yes 2 rfl (by kernel_rfl) (fun _ _ _ _ _ h => h) (by rfl) ?_; apply Exists.intro; refine ⟨fun w1 hb1 => ?_, ?_⟩; (focus (((obtain ⟨-, k4, -⟩ := K4.out.to (T.out.trans hb1)); have hb1 := Lib.hid hb1; go_simp); (try (go_bits; try go_simp)); (try (rw [if_pos (by omega)]; try go_simp)); (first | done | (fail) | (with_reducible rfl) | exact rfl)))
      simp only [Act.put, List.setIfInBounds_toArray, List.set_cons_zero, List.set_cons_succ]
      refine WT_two 1 7 rfl rfl (by kernel_rfl) ?_ ?_
      · unfold stepT
        go_wp2_with fail
        refine (HCPY.out _ h10 (bThen HB.out T.out)).mono ?_
        rintro e u1 ⟨a1, c1, rfl, -, hr1, hb, -⟩
        have HR1 := Lib.hid hr1
        clear hr1
        unfold plC
        rw [HM.out] at HR1 ⊢
        have hbd := Lib.hid (hb.mono T.out.size)
        replace T := Lib.hid (bThen T.out hb)
        clear hb
        go_wp2_with fail
        refine ⟨hbd.out, ?_⟩
        clear hbd
        refine WT_two 3 7 rfl rfl (by kernel_rfl) ?_ ?_
        · unfold stepT
          go_wp2_with fail
          refine (HNB.out _ _ _ HR1.out).mono ?_
          rintro e u2 ⟨rfl, hb⟩
          replace HR1 := Lib.hid (HR1.out.to hb)
          have hbd := Lib.hid (hb.mono T.out.size)
          replace T := Lib.hid (bThen T.out hb)
          clear hb
          go_wp2_with fail
          refine ⟨hbd.out, ?_⟩
          clear hbd
          refine WT_yes 4 rfl (by kernel_rfl) (fun _ _ _ _ _ h => h) (by rfl) ?_; apply Exists.intro; refine ⟨fun w1 hb1 => ?_, ?_⟩; (focus ((skip; have hb1 := Lib.hid hb1; go_simp); (try (go_bits; try go_simp)); (try (rw [if_pos (by omega)]; try go_simp)); (first | done | (fail) | (with_reducible rfl) | exact rfl)))
          simp only [Act.put, List.setIfInBounds_toArray, List.set_cons_zero, List.set_cons_succ]
          refine WT_yes 5 rfl (by kernel_rfl) (fun _ _ _ _ _ h => h) (by rfl) ?_; apply Exists.intro; refine ⟨fun w1 hb1 => ?_, ?_⟩; (focus ((skip; have hb1 := Lib.hid hb1; go_simp); (try (go_bits; try go_simp)); (try (rw [if_pos (by omega)]; try go_simp)); (first | done | (fail) | (with_reducible rfl) | exact rfl)))
          simp only [Act.put, List.setIfInBounds_toArray, List.set_cons_zero, List.set_cons_succ]
          refine WT_yes 6 rfl (by kernel_rfl) (fun _ _ _ _ _ h => h) (by rfl) ?_; apply Exists.intro; refine ⟨fun w1 hb1 => ?_, ?_⟩; (focus ((skip; have hb1 := Lib.hid hb1; go_simp); (try (go_bits; try go_simp)); (try (rw [if_pos (by omega)]; try go_simp)); (first | done | (fail) | (with_reducible rfl) | exact rfl)))
          simp only [Act.put, List.setIfInBounds_toArray, List.set_cons_zero, List.set_cons_succ]
          refine WT_one 7 rfl (by kernel_rfl) ?_
          unfold stepT
          go_wp2_with fail
          obtain ⟨u3, hwA⟩ : ∃ wA, u2.alloc (.cells #[.int .i64 0, .bool false] 46) = wA := ⟨_, rfl⟩
          rw [hwA]
          have hb : Below u2.heap.size u2 u3 := by subst hwA; exact bAlloc (bSelf _) _
          replace HR1 := Lib.hid (HR1.out.to hb)
          have KBN : Hid (Blk u3 u2.heap.size #[.int .i64 0, .bool false]) := by subst hwA; exact Blk.new _ _ _
          clear hwA
          have BNN : Hid (w6.heap.size ≤ u2.heap.size) := Lib.hid T.out.size
          obtain ⟨BN, hBN⟩ : ∃ N, u2.heap.size = N := ⟨_, rfl⟩
          have hbd := Lib.hid (hb.mono T.out.size)
          replace T := Lib.hid (bThen T.out hb)
          clear hb
          rw [hBN] at KBN BNN  ⊢
          clear hBN
          refine ⟨hbd.out, ?_⟩
          clear hbd
          refine WT_one 8 rfl (by kernel_rfl) ?_
          unfold stepT
          obtain ⟨-, kx, fx⟩ := KBN.out
          go_wp2_with fail
          clear kx fx
          obtain ⟨u4, hu⟩ : ∃ u, (u3.setCell ⟨BN, 0, none⟩ (.int .i64 x1)).setCell ⟨BN, 1, none⟩ (.bool x2) = u := ⟨_, rfl⟩
          have hb : Below w6.heap.size u3 u4 := by rw [← hu]; exact ((Below.refl _ _).setCell (p := ⟨BN, 0, none⟩) BNN.out _).setCell (p := ⟨BN, 1, none⟩) BNN.out _
          replace KBN := Lib.hid ((KBN.out.set 0 (.int .i64 x1)).set 1 (.bool x2))
          rw [hu] at KBN ⊢
          clear hu
          replace T := Lib.hid (T.out.trans hb)
          refine ⟨hb, ?_⟩
          clear hb
          refine WT_yes 9 rfl (by kernel_rfl) (fun _ _ _ _ _ h => h) (by rfl) ?_; apply Exists.intro; refine ⟨fun w1 hb1 => ?_, ?_⟩; (focus ((skip; have hb1 := Lib.hid hb1; go_simp); (try (go_bits; try go_simp)); (try (rw [if_pos (by omega)]; try go_simp)); (first | done | (fail) | (with_reducible rfl) | exact rfl)))
          simp only [Act.put, List.setIfInBounds_toArray, List.set_cons_zero, List.set_cons_succ]
          refine WT_done (by kernel_rfl) ?_
          go_wp2_with fail
          go_ret
          exact ⟨rfl, bThen HB.out T.out⟩
        · unfold stepT
          go_wp2_with fail
          obtain ⟨u2, hwA⟩ : ∃ wA, u1.alloc (.cells #[.int .i64 0, .bool false] 46) = wA := ⟨_, rfl⟩
          rw [hwA]
          have hb : Below u1.heap.size u1 u2 := by subst hwA; exact bAlloc (bSelf _) _
          replace HR1 := Lib.hid (HR1.out.to hb)
          have KBN : Hid (Blk u2 u1.heap.size #[.int .i64 0, .bool false]) := by subst hwA; exact Blk.new _ _ _
          clear hwA
          have BNN : Hid (w6.heap.size ≤ u1.heap.size) := Lib.hid T.out.size
          obtain ⟨BN, hBN⟩ : ∃ N, u1.heap.size = N := ⟨_, rfl⟩
          have hbd := Lib.hid (hb.mono T.out.size)
          replace T := Lib.hid (bThen T.out hb)
          clear hb
          rw [hBN] at KBN BNN  ⊢
          clear hBN
          refine ⟨hbd.out, ?_⟩
          clear hbd
          refine WT_one 3 rfl (by kernel_rfl) ?_
          unfold stepT
          go_wp2_with fail
          refine (HNB.out _ _ _ HR1.out).mono ?_
          rintro e u3 ⟨rfl, hb⟩
          replace KBN := Lib.hid (KBN.out.to hb)
          replace HR1 := Lib.hid (HR1.out.to hb)
          have hbd := Lib.hid (hb.mono T.out.size)
          replace T := Lib.hid (bThen T.out hb)
          clear hb
          go_wp2_with fail
          refine ⟨hbd.out, ?_⟩
          clear hbd
          refine WT_yes 4 rfl (by kernel_rfl) (fun _ _ _ _ _ h => h) (by rfl) ?_; apply Exists.intro; refine ⟨fun w1 hb1 => ?_, ?_⟩; (focus ((skip; have hb1 := Lib.hid hb1; go_simp); (try (go_bits; try go_simp)); (try (rw [if_pos (by omega)]; try go_simp)); (first | done | (fail) | (with_reducible rfl) | exact rfl)))
          simp only [Act.put, List.setIfInBounds_toArray, List.set_cons_zero, List.set_cons_succ]
          refine WT_yes 5 rfl (by kernel_rfl) (fun _ _ _ _ _ h => h) (by rfl) ?_; apply Exists.intro; refine ⟨fun w1 hb1 => ?_, ?_⟩; (focus ((skip; have hb1 := Lib.hid hb1; go_simp); (try (go_bits; try go_simp)); (try (rw [if_pos (by omega)]; try go_simp)); (first | done | (fail) | (with_reducible rfl) | exact rfl)))
          simp only [Act.put, List.setIfInBounds_toArray, List.set_cons_zero, List.set_cons_succ]
          refine WT_yes 6 rfl (by kernel_rfl) (fun _ _ _ _ _ h => h) (by rfl) ?_; apply Exists.intro; refine ⟨fun w1 hb1 => ?_, ?_⟩; (focus ((skip; have hb1 := Lib.hid hb1; go_simp); (try (go_bits; try go_simp)); (try (rw [if_pos (by omega)]; try go_simp)); (first | done | (fail) | (with_reducible rfl) | exact rfl)))
          simp only [Act.put, List.setIfInBounds_toArray, List.set_cons_zero, List.set_cons_succ]
          refine WT_one 8 rfl (by kernel_rfl) ?_
          unfold stepT
          obtain ⟨-, kx, fx⟩ := KBN.out
          go_wp2_with fail
          clear kx fx
          obtain ⟨u4, hu⟩ : ∃ u, (u3.setCell ⟨BN, 0, none⟩ (.int .i64 x1)).setCell ⟨BN, 1, none⟩ (.bool x2) = u := ⟨_, rfl⟩
          have hb : Below w6.heap.size u3 u4 := by rw [← hu]; exact ((Below.refl _ _).setCell (p := ⟨BN, 0, none⟩) BNN.out _).setCell (p := ⟨BN, 1, none⟩) BNN.out _
          replace KBN := Lib.hid ((KBN.out.set 0 (.int .i64 x1)).set 1 (.bool x2))
          rw [hu] at KBN ⊢
          clear hu
          replace T := Lib.hid (T.out.trans hb)
          refine ⟨hb, ?_⟩
          clear hb
          refine WT_yes 9 rfl (by kernel_rfl) (fun _ _ _ _ _ h => h) (by rfl) ?_; apply Exists.intro; refine ⟨fun w1 hb1 => ?_, ?_⟩; (focus ((skip; have hb1 := Lib.hid hb1; go_simp); (try (go_bits; try go_simp)); (try (rw [if_pos (by omega)]; try go_simp)); (first | done | (fail) | (with_reducible rfl) | exact rfl)))
          simp only [Act.put, List.setIfInBounds_toArray, List.set_cons_zero, List.set_cons_succ]
          refine WT_done (by kernel_rfl) ?_
          go_wp2_with fail
          go_ret
          exact ⟨rfl, bThen HB.out T.out⟩
      · unfold stepT
        go_wp2_with fail
        obtain ⟨u1, hwA⟩ : ∃ wA, wd.alloc (.cells #[.int .i64 0, .bool false] 46) = wA := ⟨_, rfl⟩
        rw [hwA]
        have hb : Below wd.heap.size wd u1 := by subst hwA; exact bAlloc (bSelf _) _
        have KBN : Hid (Blk u1 wd.heap.size #[.int .i64 0, .bool false]) := by subst hwA; exact Blk.new _ _ _
        clear hwA
        have BNN : Hid (w6.heap.size ≤ wd.heap.size) := Lib.hid T.out.size
        obtain ⟨BN, hBN⟩ : ∃ N, wd.heap.size = N := ⟨_, rfl⟩
        have hbd := Lib.hid (hb.mono T.out.size)
        replace T := Lib.hid (bThen T.out hb)
        clear hb
        rw [hBN] at KBN BNN  ⊢
        clear hBN
        refine ⟨hbd.out, ?_⟩
        clear hbd
        refine WT_one 1 rfl (by kernel_rfl) ?_
        unfold stepT
        go_wp2_with fail
        refine (HCPY.out _ h10 (bThen HB.out T.out)).mono ?_
        rintro e u2 ⟨a1, c1, rfl, -, hr1, hb, -⟩
        replace KBN := Lib.hid (KBN.out.to hb)
        have HR1 := Lib.hid hr1
        clear hr1
        unfold plC
        rw [HM.out] at HR1 ⊢
        have hbd := Lib.hid (hb.mono T.out.size)
        replace T := Lib.hid (bThen T.out hb)
        clear hb
        go_wp2_with fail
        refine ⟨hbd.out, ?_⟩
        clear hbd
        refine WT_one 3 rfl (by kernel_rfl) ?_
        unfold stepT
        go_wp2_with fail
        refine (HNB.out _ _ _ HR1.out).mono ?_
        rintro e u3 ⟨rfl, hb⟩
        replace KBN := Lib.hid (KBN.out.to hb)
        replace HR1 := Lib.hid (HR1.out.to hb)
        have hbd := Lib.hid (hb.mono T.out.size)
        replace T := Lib.hid (bThen T.out hb)
        clear hb
        go_wp2_with fail
        refine ⟨hbd.out, ?_⟩
        clear hbd
        refine WT_yes 4 rfl (by kernel_rfl) (fun _ _ _ _ _ h => h) (by rfl) ?_; apply Exists.intro; refine ⟨fun w1 hb1 => ?_, ?_⟩; (focus ((skip; have hb1 := Lib.hid hb1; go_simp); (try (go_bits; try go_simp)); (try (rw [if_pos (by omega)]; try go_simp)); (first | done | (fail) | (with_reducible rfl) | exact rfl)))
        simp only [Act.put, List.setIfInBounds_toArray, List.set_cons_zero, List.set_cons_succ]
        refine WT_yes 5 rfl (by kernel_rfl) (fun _ _ _ _ _ h => h) (by rfl) ?_; apply Exists.intro; refine ⟨fun w1 hb1 => ?_, ?_⟩; (focus ((skip; have hb1 := Lib.hid hb1; go_simp); (try (go_bits; try go_simp)); (try (rw [if_pos (by omega)]; try go_simp)); (first | done | (fail) | (with_reducible rfl) | exact rfl)))
        simp only [Act.put, List.setIfInBounds_toArray, List.set_cons_zero, List.set_cons_succ]
        refine WT_yes 6 rfl (by kernel_rfl) (fun _ _ _ _ _ h => h) (by rfl) ?_; apply Exists.intro; refine ⟨fun w1 hb1 => ?_, ?_⟩; (focus ((skip; have hb1 := Lib.hid hb1; go_simp); (try (go_bits; try go_simp)); (try (rw [if_pos (by omega)]; try go_simp)); (first | done | (fail) | (with_reducible rfl) | exact rfl)))
        simp only [Act.put, List.setIfInBounds_toArray, List.set_cons_zero, List.set_cons_succ]
        refine WT_one 8 rfl (by kernel_rfl) ?_
        unfold stepT
        obtain ⟨-, kx, fx⟩ := KBN.out
        go_wp2_with fail
        clear kx fx
        obtain ⟨u4, hu⟩ : ∃ u, (u3.setCell ⟨BN, 0, none⟩ (.int .i64 x1)).setCell ⟨BN, 1, none⟩ (.bool x2) = u := ⟨_, rfl⟩
        have hb : Below w6.heap.size u3 u4 := by rw [← hu]; exact ((Below.refl _ _).setCell (p := ⟨BN, 0, none⟩) BNN.out _).setCell (p := ⟨BN, 1, none⟩) BNN.out _
        replace KBN := Lib.hid ((KBN.out.set 0 (.int .i64 x1)).set 1 (.bool x2))
        rw [hu] at KBN ⊢
        clear hu
        replace T := Lib.hid (T.out.trans hb)
        refine ⟨hb, ?_⟩
        clear hb
        refine WT_yes 9 rfl (by kernel_rfl) (fun _ _ _ _ _ h => h) (by rfl) ?_; apply Exists.intro; refine ⟨fun w1 hb1 => ?_, ?_⟩; (focus ((skip; have hb1 := Lib.hid hb1; go_simp); (try (go_bits; try go_simp)); (try (rw [if_pos (by omega)]; try go_simp)); (first | done | (fail) | (with_reducible rfl) | exact rfl)))
        simp only [Act.put, List.setIfInBounds_toArray, List.set_cons_zero, List.set_cons_succ]
        refine WT_done (by kernel_rfl) ?_
        go_wp2_with fail
        go_ret
        exact ⟨rfl, bThen HB.out T.out⟩
    · rw [if_neg hc] at HOP
      obtain rfl : rn = ch := HOP.out
      obtain ⟨-, k3, -⟩ := K3.out
      go_wp2_with fail
      refine (HPE.out _ h10 HB.out).mono ?_
      rintro e w5 ⟨rfl, hb⟩
      replace K3 := Lib.hid (K3.out.to hb)
      replace K4 := Lib.hid (K4.out.to hb)
      replace HB := Lib.hid (bThen HB.out hb)
      replace HL := Lib.hid (HL.out.to hb)
      clear hb k3 HPE
      clear HSE
      go_wp2_with fail
      have HNB := Lib.hid (fun W a1 c1 h => HNX.out W a1 c1 (s1, sr) 0 h10 h)
      obtain ⟨nx, hnx⟩ : ∃ x, nexP p (s1, sr) 0 = x := ⟨_, rfl⟩
      rw [hnx, HE3.out] at HNB
      obtain ⟨x1, x2⟩ := nx
      dsimp only at HNB
      clear hnx HNX
      refine wp_region_tree (by kernel_rfl) (fun wd hwd => ?_)
      have T := Lib.hid hwd
      clear hwd
      refine WT_yes 0 rfl (by kernel_rfl) (fun _ _ _ _ _ h => h) (by rfl) ?_; apply Exists.intro; refine ⟨fun w1 hb1 => ?_, ?_⟩; (focus (((obtain ⟨-, k3, -⟩ := K3.out.to (T.out.trans hb1)); have hb1 := Lib.hid hb1; go_simp); (try (go_bits; try go_simp)); (try (rw [if_pos (by omega)]; try go_simp)); (first | done | (fail) | (with_reducible rfl) | exact rfl)))
      simp only [Act.put, List.setIfInBounds_toArray, List.set_cons_zero, List.set_cons_succ]
      refine WT_yes 2 rfl (by kernel_rfl) (fun _ _ _ _ _ h => h) (by rfl) ?_; apply Exists.intro; refine ⟨fun w1 hb1 => ?_, ?_⟩; (focus (((obtain ⟨-, k4, -⟩ := K4.out.to (T.out.trans hb1)); have hb1 := Lib.hid hb1; go_simp); (try (go_bits; try go_simp)); (try (rw [if_pos (by omega)]; try go_simp)); (first | done | (fail) | (with_reducible rfl) | exact rfl)))
      simp only [Act.put, List.setIfInBounds_toArray, List.set_cons_zero, List.set_cons_succ]
      refine WT_two 1 7 rfl rfl (by kernel_rfl) ?_ ?_
      · unfold stepT
        go_wp2_with fail
        refine (HCPY.out _ h10 (bThen HB.out T.out)).mono ?_
        rintro e u1 ⟨a1, c1, rfl, -, hr1, hb, -⟩
        have HR1 := Lib.hid hr1
        clear hr1
        unfold plC
        rw [HM.out] at HR1 ⊢
        have hbd := Lib.hid (hb.mono T.out.size)
        replace T := Lib.hid (bThen T.out hb)
        clear hb
        go_wp2_with fail
        refine ⟨hbd.out, ?_⟩
        clear hbd
        refine WT_two 3 7 rfl rfl (by kernel_rfl) ?_ ?_
        · unfold stepT
          go_wp2_with fail
          refine (HNB.out _ _ _ HR1.out).mono ?_
          rintro e u2 ⟨rfl, hb⟩
          replace HR1 := Lib.hid (HR1.out.to hb)
          have hbd := Lib.hid (hb.mono T.out.size)
          replace T := Lib.hid (bThen T.out hb)
          clear hb
          go_wp2_with fail
          refine ⟨hbd.out, ?_⟩
          clear hbd
          refine WT_yes 4 rfl (by kernel_rfl) (fun _ _ _ _ _ h => h) (by rfl) ?_; apply Exists.intro; refine ⟨fun w1 hb1 => ?_, ?_⟩; (focus ((skip; have hb1 := Lib.hid hb1; go_simp); (try (go_bits; try go_simp)); (try (rw [if_pos (by omega)]; try go_simp)); (first | done | (fail) | (with_reducible rfl) | exact rfl)))
          simp only [Act.put, List.setIfInBounds_toArray, List.set_cons_zero, List.set_cons_succ]
          refine WT_yes 5 rfl (by kernel_rfl) (fun _ _ _ _ _ h => h) (by rfl) ?_; apply Exists.intro; refine ⟨fun w1 hb1 => ?_, ?_⟩; (focus ((skip; have hb1 := Lib.hid hb1; go_simp); (try (go_bits; try go_simp)); (try (rw [if_pos (by omega)]; try go_simp)); (first | done | (fail) | (with_reducible rfl) | exact rfl)))
          simp only [Act.put, List.setIfInBounds_toArray, List.set_cons_zero, List.set_cons_succ]
          refine WT_yes 6 rfl (by kernel_rfl) (fun _ _ _ _ _ h => h) (by rfl) ?_; apply Exists.intro; refine ⟨fun w1 hb1 => ?_, ?_⟩; (focus ((skip; have hb1 := Lib.hid hb1; go_simp); (try (go_bits; try go_simp)); (try (rw [if_pos (by omega)]; try go_simp)); (first | done | (fail) | (with_reducible rfl) | exact rfl)))
          simp only [Act.put, List.setIfInBounds_toArray, List.set_cons_zero, List.set_cons_succ]
          refine WT_one 7 rfl (by kernel_rfl) ?_
          unfold stepT
          go_wp2_with fail
          obtain ⟨u3, hwA⟩ : ∃ wA, u2.alloc (.cells #[.int .i64 0, .bool false] 46) = wA := ⟨_, rfl⟩
          rw [hwA]
          have hb : Below u2.heap.size u2 u3 := by subst hwA; exact bAlloc (bSelf _) _
          replace HR1 := Lib.hid (HR1.out.to hb)
          have KBN : Hid (Blk u3 u2.heap.size #[.int .i64 0, .bool false]) := by subst hwA; exact Blk.new _ _ _
          clear hwA
          have BNN : Hid (w5.heap.size ≤ u2.heap.size) := Lib.hid T.out.size
          obtain ⟨BN, hBN⟩ : ∃ N, u2.heap.size = N := ⟨_, rfl⟩
          have hbd := Lib.hid (hb.mono T.out.size)
          replace T := Lib.hid (bThen T.out hb)
          clear hb
          rw [hBN] at KBN BNN  ⊢
          clear hBN
          refine ⟨hbd.out, ?_⟩
          clear hbd
          refine WT_one 8 rfl (by kernel_rfl) ?_
          unfold stepT
          obtain ⟨-, kx, fx⟩ := KBN.out
          go_wp2_with fail
          clear kx fx
          obtain ⟨u4, hu⟩ : ∃ u, (u3.setCell ⟨BN, 0, none⟩ (.int .i64 x1)).setCell ⟨BN, 1, none⟩ (.bool x2) = u := ⟨_, rfl⟩
          have hb : Below w5.heap.size u3 u4 := by rw [← hu]; exact ((Below.refl _ _).setCell (p := ⟨BN, 0, none⟩) BNN.out _).setCell (p := ⟨BN, 1, none⟩) BNN.out _
          replace KBN := Lib.hid ((KBN.out.set 0 (.int .i64 x1)).set 1 (.bool x2))
          rw [hu] at KBN ⊢
          clear hu
          replace T := Lib.hid (T.out.trans hb)
          refine ⟨hb, ?_⟩
          clear hb
          refine WT_yes 9 rfl (by kernel_rfl) (fun _ _ _ _ _ h => h) (by rfl) ?_; apply Exists.intro; refine ⟨fun w1 hb1 => ?_, ?_⟩; (focus ((skip; have hb1 := Lib.hid hb1; go_simp); (try (go_bits; try go_simp)); (try (rw [if_pos (by omega)]; try go_simp)); (first | done | (fail) | (with_reducible rfl) | exact rfl)))
          simp only [Act.put, List.setIfInBounds_toArray, List.set_cons_zero, List.set_cons_succ]
          refine WT_done (by kernel_rfl) ?_
          go_wp2_with fail
          go_ret
          exact ⟨rfl, bThen HB.out T.out⟩
        · unfold stepT
          go_wp2_with fail
          obtain ⟨u2, hwA⟩ : ∃ wA, u1.alloc (.cells #[.int .i64 0, .bool false] 46) = wA := ⟨_, rfl⟩
          rw [hwA]
          have hb : Below u1.heap.size u1 u2 := by subst hwA; exact bAlloc (bSelf _) _
          replace HR1 := Lib.hid (HR1.out.to hb)
          have KBN : Hid (Blk u2 u1.heap.size #[.int .i64 0, .bool false]) := by subst hwA; exact Blk.new _ _ _
          clear hwA
          have BNN : Hid (w5.heap.size ≤ u1.heap.size) := Lib.hid T.out.size
          obtain ⟨BN, hBN⟩ : ∃ N, u1.heap.size = N := ⟨_, rfl⟩
          have hbd := Lib.hid (hb.mono T.out.size)
          replace T := Lib.hid (bThen T.out hb)
          clear hb
          rw [hBN] at KBN BNN  ⊢
          clear hBN
          refine ⟨hbd.out, ?_⟩
          clear hbd
          refine WT_one 3 rfl (by kernel_rfl) ?_
          unfold stepT
          go_wp2_with fail
          refine (HNB.out _ _ _ HR1.out).mono ?_
          rintro e u3 ⟨rfl, hb⟩
          replace KBN := Lib.hid (KBN.out.to hb)
          replace HR1 := Lib.hid (HR1.out.to hb)
          have hbd := Lib.hid (hb.mono T.out.size)
          replace T := Lib.hid (bThen T.out hb)
          clear hb
          go_wp2_with fail
          refine ⟨hbd.out, ?_⟩
          clear hbd
          refine WT_yes 4 rfl (by kernel_rfl) (fun _ _ _ _ _ h => h) (by rfl) ?_; apply Exists.intro; refine ⟨fun w1 hb1 => ?_, ?_⟩; (focus ((skip; have hb1 := Lib.hid hb1; go_simp); (try (go_bits; try go_simp)); (try (rw [if_pos (by omega)]; try go_simp)); (first | done | (fail) | (with_reducible rfl) | exact rfl)))
          simp only [Act.put, List.setIfInBounds_toArray, List.set_cons_zero, List.set_cons_succ]
          refine WT_yes 5 rfl (by kernel_rfl) (fun _ _ _ _ _ h => h) (by rfl) ?_; apply Exists.intro; refine ⟨fun w1 hb1 => ?_, ?_⟩; (focus ((skip; have hb1 := Lib.hid hb1; go_simp); (try (go_bits; try go_simp)); (try (rw [if_pos (by omega)]; try go_simp)); (first | done | (fail) | (with_reducible rfl) | exact rfl)))
          simp only [Act.put, List.setIfInBounds_toArray, List.set_cons_zero, List.set_cons_succ]
          refine WT_yes 6 rfl (by kernel_rfl) (fun _ _ _ _ _ h => h) (by rfl) ?_; apply Exists.intro; refine ⟨fun w1 hb1 => ?_, ?_⟩; (focus ((skip; have hb1 := Lib.hid hb1; go_simp); (try (go_bits; try go_simp)); (try (rw [if_pos (by omega)]; try go_simp)); (first | done | (fail) | (with_reducible rfl) | exact rfl)))
          simp only [Act.put, List.setIfInBounds_toArray, List.set_cons_zero, List.set_cons_succ]
          refine WT_one 8 rfl (by kernel_rfl) ?_
          unfold stepT
          obtain ⟨-, kx, fx⟩ := KBN.out
          go_wp2_with fail
          clear kx fx
          obtain ⟨u4, hu⟩ : ∃ u, (u3.setCell ⟨BN, 0, none⟩ (.int .i64 x1)).setCell ⟨BN, 1, none⟩ (.bool x2) = u := ⟨_, rfl⟩
          have hb : Below w5.heap.size u3 u4 := by rw [← hu]; exact ((Below.refl _ _).setCell (p := ⟨BN, 0, none⟩) BNN.out _).setCell (p := ⟨BN, 1, none⟩) BNN.out _
          replace KBN := Lib.hid ((KBN.out.set 0 (.int .i64 x1)).set 1 (.bool x2))
          rw [hu] at KBN ⊢
          clear hu
          replace T := Lib.hid (T.out.trans hb)
          refine ⟨hb, ?_⟩
          clear hb
          refine WT_yes 9 rfl (by kernel_rfl) (fun _ _ _ _ _ h => h) (by rfl) ?_; apply Exists.intro; refine ⟨fun w1 hb1 => ?_, ?_⟩; (focus ((skip; have hb1 := Lib.hid hb1; go_simp); (try (go_bits; try go_simp)); (try (rw [if_pos (by omega)]; try go_simp)); (first | done | (fail) | (with_reducible rfl) | exact rfl)))
          simp only [Act.put, List.setIfInBounds_toArray, List.set_cons_zero, List.set_cons_succ]
          refine WT_done (by kernel_rfl) ?_
          go_wp2_with fail
          go_ret
          exact ⟨rfl, bThen HB.out T.out⟩
      · unfold stepT
        go_wp2_with fail
        obtain ⟨u1, hwA⟩ : ∃ wA, wd.alloc (.cells #[.int .i64 0, .bool false] 46) = wA := ⟨_, rfl⟩
        rw [hwA]
        have hb : Below wd.heap.size wd u1 := by subst hwA; exact bAlloc (bSelf _) _
        have KBN : Hid (Blk u1 wd.heap.size #[.int .i64 0, .bool false]) := by subst hwA; exact Blk.new _ _ _
        clear hwA
        have BNN : Hid (w5.heap.size ≤ wd.heap.size) := Lib.hid T.out.size
        obtain ⟨BN, hBN⟩ : ∃ N, wd.heap.size = N := ⟨_, rfl⟩
        have hbd := Lib.hid (hb.mono T.out.size)
        replace T := Lib.hid (bThen T.out hb)
        clear hb
        rw [hBN] at KBN BNN  ⊢
        clear hBN
        refine ⟨hbd.out, ?_⟩
        clear hbd
        refine WT_one 1 rfl (by kernel_rfl) ?_
        unfold stepT
        go_wp2_with fail
        refine (HCPY.out _ h10 (bThen HB.out T.out)).mono ?_
        rintro e u2 ⟨a1, c1, rfl, -, hr1, hb, -⟩
        replace KBN := Lib.hid (KBN.out.to hb)
        have HR1 := Lib.hid hr1
        clear hr1
        unfold plC
        rw [HM.out] at HR1 ⊢
        have hbd := Lib.hid (hb.mono T.out.size)
        replace T := Lib.hid (bThen T.out hb)
        clear hb
        go_wp2_with fail
        refine ⟨hbd.out, ?_⟩
        clear hbd
        refine WT_one 3 rfl (by kernel_rfl) ?_
        unfold stepT
        go_wp2_with fail
        refine (HNB.out _ _ _ HR1.out).mono ?_
        rintro e u3 ⟨rfl, hb⟩
        replace KBN := Lib.hid (KBN.out.to hb)
        replace HR1 := Lib.hid (HR1.out.to hb)
        have hbd := Lib.hid (hb.mono T.out.size)
        replace T := Lib.hid (bThen T.out hb)
        clear hb
        go_wp2_with fail
        refine ⟨hbd.out, ?_⟩
        clear hbd
        refine WT_yes 4 rfl (by kernel_rfl) (fun _ _ _ _ _ h => h) (by rfl) ?_; apply Exists.intro; refine ⟨fun w1 hb1 => ?_, ?_⟩; (focus ((skip; have hb1 := Lib.hid hb1; go_simp); (try (go_bits; try go_simp)); (try (rw [if_pos (by omega)]; try go_simp)); (first | done | (fail) | (with_reducible rfl) | exact rfl)))
        simp only [Act.put, List.setIfInBounds_toArray, List.set_cons_zero, List.set_cons_succ]
        refine WT_yes 5 rfl (by kernel_rfl) (fun _ _ _ _ _ h => h) (by rfl) ?_; apply Exists.intro; refine ⟨fun w1 hb1 => ?_, ?_⟩; (focus ((skip; have hb1 := Lib.hid hb1; go_simp); (try (go_bits; try go_simp)); (try (rw [if_pos (by omega)]; try go_simp)); (first | done | (fail) | (with_reducible rfl) | exact rfl)))
        simp only [Act.put, List.setIfInBounds_toArray, List.set_cons_zero, List.set_cons_succ]
        refine WT_yes 6 rfl (by kernel_rfl) (fun _ _ _ _ _ h => h) (by rfl) ?_; apply Exists.intro; refine ⟨fun w1 hb1 => ?_, ?_⟩; (focus ((skip; have hb1 := Lib.hid hb1; go_simp); (try (go_bits; try go_simp)); (try (rw [if_pos (by omega)]; try go_simp)); (first | done | (fail) | (with_reducible rfl) | exact rfl)))
        simp only [Act.put, List.setIfInBounds_toArray, List.set_cons_zero, List.set_cons_succ]
        refine WT_one 8 rfl (by kernel_rfl) ?_
        unfold stepT
        obtain ⟨-, kx, fx⟩ := KBN.out
        go_wp2_with fail
        clear kx fx
        obtain ⟨u4, hu⟩ : ∃ u, (u3.setCell ⟨BN, 0, none⟩ (.int .i64 x1)).setCell ⟨BN, 1, none⟩ (.bool x2) = u := ⟨_, rfl⟩
        have hb : Below w5.heap.size u3 u4 := by rw [← hu]; exact ((Below.refl _ _).setCell (p := ⟨BN, 0, none⟩) BNN.out _).setCell (p := ⟨BN, 1, none⟩) BNN.out _
        replace KBN := Lib.hid ((KBN.out.set 0 (.int .i64 x1)).set 1 (.bool x2))
        rw [hu] at KBN ⊢
        clear hu
        replace T := Lib.hid (T.out.trans hb)
        refine ⟨hb, ?_⟩
        clear hb
        refine WT_yes 9 rfl (by kernel_rfl) (fun _ _ _ _ _ h => h) (by rfl) ?_; apply Exists.intro; refine ⟨fun w1 hb1 => ?_, ?_⟩; (focus ((skip; have hb1 := Lib.hid hb1; go_simp); (try (go_bits; try go_simp)); (try (rw [if_pos (by omega)]; try go_simp)); (first | done | (fail) | (with_reducible rfl) | exact rfl)))
        simp only [Act.put, List.setIfInBounds_toArray, List.set_cons_zero, List.set_cons_succ]
        refine WT_done (by kernel_rfl) ?_
        go_wp2_with fail
        go_ret
        exact ⟨rfl, bThen HB.out T.out⟩
  subst h0
  have hcs : ch = 0 ∧ st = 0 := by
    have := HOP.out
    by_cases hc : ch = 0
    · rw [if_pos hc] at this; exact ⟨hc, this.symm⟩
    · rw [if_neg hc] at this; exact absurd this.symm hc
  obtain ⟨rfl, rfl⟩ := hcs
  clear HOP HBAD
  replace HNR := Lib.hid (fun W => HNR.out W rfl)
  replace HST := Lib.hid (fun k => HST.out k rfl)
  replace HNV := Lib.hid (fun d => HNV.out d rfl)
  obtain ⟨-, k3, -⟩ := K3.out
  go_wp2_with fail
  refine (HPE.out _ h10 HB.out).mono ?_
  rintro e w5 ⟨rfl, hb⟩
  replace K3 := Lib.hid (K3.out.to hb)
  replace K4 := Lib.hid (K4.out.to hb)
  replace HB := Lib.hid (bThen HB.out hb)
  replace HL := Lib.hid (HL.out.to hb)
  clear hb k3 HPE
  obtain ⟨-, k3, -⟩ := K3.out
  obtain ⟨-, k4, -⟩ := K4.out
  go_wp2_with fail
  refine (HSE.out _ h10 (by first | trivial | rfl) HB.out).mono ?_
  rintro e w6 ⟨rfl, hb⟩
  replace K3 := Lib.hid (K3.out.to hb)
  replace K4 := Lib.hid (K4.out.to hb)
  replace HB := Lib.hid (bThen HB.out hb)
  replace HL := Lib.hid (HL.out.to hb)
  clear hb k3 k4 HSE
  obtain ⟨-, k3, -⟩ := K3.out
  obtain ⟨-, k4, -⟩ := K4.out
  go_wp2_with fail
  refine (HRN.out _ (by first | trivial | rfl) HB.out).mono ?_
  rintro e w7 ⟨a4, c4, rfl, -, hr4, hb, -⟩
  replace K3 := Lib.hid (K3.out.to hb)
  replace K4 := Lib.hid (K4.out.to hb)
  replace HB := Lib.hid (bThen HB.out hb)
  replace HL := Lib.hid (HL.out.to hb)
  have HL2 := Lib.hid hr4
  clear hr4 hb k3 k4 HRN
  go_wp2_with fail
  refine (HSS.out _ _ _ _ _ h22 HL.out HL2.out).mono ?_
  rintro e w8 ⟨rfl, hb⟩
  replace K3 := Lib.hid (K3.out.to hb)
  replace K4 := Lib.hid (K4.out.to hb)
  replace HB := Lib.hid (bThen HB.out hb)
  replace HL := Lib.hid (HL.out.to hb)
  clear hb HL2 HSS
  try simp only [decide_true]
  go_upto_if 86 with (fail)
  go_cut [13, 14, 15, 16] from 86 to 137 (fun _ _ _ _ wc => Hid (Below w8.heap.size w8 wc))
  case first =>
    by_cases hn0 : n = 0
    · subst hn0
      go_wp2_with fail
      go_meet
      case rel => exact Lib.hid (Below.refl _ _)
    · have hn1 : 0 < n := by omega
      obtain ⟨b, off, rfl, hb, hc⟩ := HDR.out.at (k := 0) hn1
      obtain ⟨d, hd⟩ : ∃ d, gi ds 0 = d := ⟨_, rfl⟩
      have hb2 : b < w8.heap.size := Nat.lt_of_lt_of_le hb HB.out.size
      have C0 : Hid (w8.cell? ⟨b, off, none⟩ = some (.int .i64 d)) := Lib.hid (((HB.out.cell (p := ⟨b, off, none⟩) hb).trans (hc 0 hn1)).trans (by unfold ints; rw [hd]))
      clear hc hb hd
      have HNB := Lib.hid (fun W a1 c1 h => HNX.out W a1 c1 (s1, sr) d h10 h)
      have HV := Lib.hid (HNV.out d)
      obtain ⟨nx, hnx⟩ : ∃ x, nexP p (s1, sr) d = x := ⟨_, rfl⟩
      obtain ⟨fr, hfr⟩ : ∃ x, nexR p (s1, sr) d = x := ⟨_, rfl⟩
      rw [hnx, hfr] at HNB HV
      obtain ⟨x1, x2⟩ := nx
      dsimp only at HNB
      clear hnx hfr HNX HNV
      go_wp2_with fail
      go_cut [13, 14] from 86 to 96 (fun s13 s14 wc => ∃ B, s13 = .pointer (some ⟨B, 0, none⟩) ∧ s14 = .int .i64 fr ∧ Hid (Blk wc B #[.int .i64 x1, .bool x2]) ∧ Hid (Below w8.heap.size w8 wc))
      case first =>
        refine wp_region_tree (by kernel_rfl) (fun wd hwd => ?_)
        have T := Lib.hid hwd
        clear hwd
        refine WT_yes 0 rfl (by kernel_rfl) (fun _ _ _ _ _ h => h) (by rfl) ?_; apply Exists.intro; refine ⟨fun w1 hb1 => ?_, ?_⟩; (focus (((obtain ⟨-, k3, -⟩ := K3.out.to (T.out.trans hb1)); have hb1 := Lib.hid hb1; go_simp); (try (go_bits; try go_simp)); (try (rw [if_pos (by omega)]; try go_simp)); (first | done | (fail) | (with_reducible rfl) | exact rfl)))
        simp only [Act.put, List.setIfInBounds_toArray, List.set_cons_zero, List.set_cons_succ]
        refine WT_yes 2 rfl (by kernel_rfl) (fun _ _ _ _ _ h => h) (by rfl) ?_; apply Exists.intro; refine ⟨fun w1 hb1 => ?_, ?_⟩; (focus (((obtain ⟨-, k4, -⟩ := K4.out.to (T.out.trans hb1)); have hb1 := Lib.hid hb1; go_simp); (try (go_bits; try go_simp)); (try (rw [if_pos (by omega)]; try go_simp)); (first | done | (fail) | (with_reducible rfl) | exact rfl)))
        simp only [Act.put, List.setIfInBounds_toArray, List.set_cons_zero, List.set_cons_succ]
        refine WT_yes 3 rfl (by kernel_rfl) (fun _ _ _ _ _ h => h) (by rfl) ?_; apply Exists.intro; refine ⟨fun w1 hb1 => ?_, ?_⟩; (focus ((skip; have hb1 := Lib.hid hb1; go_simp); (try (go_bits; try go_simp)); (try (rw [if_pos (by omega)]; try go_simp)); (first | done | (fail) | (with_reducible rfl) | exact rfl)))
        simp only [Act.put, List.setIfInBounds_toArray, List.set_cons_zero, List.set_cons_succ]
        refine WT_yes 4 rfl (by kernel_rfl) (fun _ _ _ _ _ h => h) (by rfl) ?_; apply Exists.intro; refine ⟨fun w1 hb1 => ?_, ?_⟩; (focus ((skip; have hb1 := Lib.hid hb1; go_simp); (try (go_bits; try go_simp)); (try (rw [if_pos (by omega)]; try go_simp)); (first | done | (fail) | (with_reducible rfl) | exact rfl)))
        simp only [Act.put, List.setIfInBounds_toArray, List.set_cons_zero, List.set_cons_succ]
        refine WT_yes 5 rfl (by kernel_rfl) (fun _ _ _ _ _ h => h) (by rfl) ?_; apply Exists.intro; refine ⟨fun w1 hb1 => ?_, ?_⟩; (focus (((have c0 := (hb1.cell (p := ⟨b, off, none⟩) hb2).trans ((T.out.cell (p := ⟨b, off, none⟩) hb2).trans C0.out)); have hb1 := Lib.hid hb1; go_simp); (try (go_bits; try go_simp)); (try (rw [if_pos (by omega)]; try go_simp)); (first | done | (fail) | (with_reducible rfl) | exact rfl)))
        simp only [Act.put, List.setIfInBounds_toArray, List.set_cons_zero, List.set_cons_succ]
        refine WT_two 1 10 rfl rfl (by kernel_rfl) ?_ ?_
        · unfold stepT
          go_wp2_with fail
          refine (HCPY.out _ h10 (bThen HB.out T.out)).mono ?_
          rintro e u1 ⟨a1, c1, rfl, -, hr1, hb, -⟩
          have HR1 := Lib.hid hr1
          clear hr1
          unfold plC
          rw [HM.out] at HR1 ⊢
          have hbd := Lib.hid (hb.mono T.out.size)
          replace T := Lib.hid (bThen T.out hb)
          clear hb
          go_wp2_with fail
          refine ⟨hbd.out, ?_⟩
          clear hbd
          refine WT_two 6 10 rfl rfl (by kernel_rfl) ?_ ?_
          · unfold stepT
            go_wp2_with fail
            refine (HNB.out _ _ _ HR1.out).mono ?_
            rintro e u2 ⟨rfl, hb⟩
            replace HR1 := Lib.hid (HR1.out.to hb)
            have hbd := Lib.hid (hb.mono T.out.size)
            replace T := Lib.hid (bThen T.out hb)
            clear hb
            go_wp2_with fail
            refine ⟨hbd.out, ?_⟩
            clear hbd
            refine WT_yes 7 rfl (by kernel_rfl) (fun _ _ _ _ _ h => h) (by rfl) ?_; apply Exists.intro; refine ⟨fun w1 hb1 => ?_, ?_⟩; (focus ((skip; have hb1 := Lib.hid hb1; go_simp); (try (go_bits; try go_simp)); (try (rw [if_pos (by omega)]; try go_simp)); (first | done | (fail) | (with_reducible rfl) | exact rfl)))
            simp only [Act.put, List.setIfInBounds_toArray, List.set_cons_zero, List.set_cons_succ]
            refine WT_yes 8 rfl (by kernel_rfl) (fun _ _ _ _ _ h => h) (by rfl) ?_; apply Exists.intro; refine ⟨fun w1 hb1 => ?_, ?_⟩; (focus ((skip; have hb1 := Lib.hid hb1; go_simp); (try (go_bits; try go_simp)); (try (rw [if_pos (by omega)]; try go_simp)); (first | done | (fail) | (with_reducible rfl) | exact rfl)))
            simp only [Act.put, List.setIfInBounds_toArray, List.set_cons_zero, List.set_cons_succ]
            refine WT_yes 9 rfl (by kernel_rfl) (fun _ _ _ _ _ h => h) (by rfl) ?_; apply Exists.intro; refine ⟨fun w1 hb1 => ?_, ?_⟩; (focus ((skip; have hb1 := Lib.hid hb1; go_simp); (try (go_bits; try go_simp)); (try (rw [if_pos (by omega)]; try go_simp)); (first | done | (fail) | (with_reducible rfl) | exact rfl)))
            simp only [Act.put, List.setIfInBounds_toArray, List.set_cons_zero, List.set_cons_succ]
            refine WT_one 10 rfl (by kernel_rfl) ?_
            unfold stepT
            go_wp2_with fail
            obtain ⟨u3, hwA⟩ : ∃ wA, u2.alloc (.cells #[.int .i64 0, .bool false] 46) = wA := ⟨_, rfl⟩
            rw [hwA]
            have hb : Below u2.heap.size u2 u3 := by subst hwA; exact bAlloc (bSelf _) _
            replace HR1 := Lib.hid (HR1.out.to hb)
            have KBN : Hid (Blk u3 u2.heap.size #[.int .i64 0, .bool false]) := by subst hwA; exact Blk.new _ _ _
            clear hwA
            have BNN : Hid (w8.heap.size ≤ u2.heap.size) := Lib.hid T.out.size
            obtain ⟨BN, hBN⟩ : ∃ N, u2.heap.size = N := ⟨_, rfl⟩
            have hbd := Lib.hid (hb.mono T.out.size)
            replace T := Lib.hid (bThen T.out hb)
            clear hb
            rw [hBN] at KBN BNN  ⊢
            clear hBN
            refine ⟨hbd.out, ?_⟩
            clear hbd
            refine WT_one 11 rfl (by kernel_rfl) ?_
            unfold stepT
            obtain ⟨-, kx, fx⟩ := KBN.out
            go_wp2_with fail
            clear kx fx
            obtain ⟨u4, hu⟩ : ∃ u, (u3.setCell ⟨BN, 0, none⟩ (.int .i64 x1)).setCell ⟨BN, 1, none⟩ (.bool x2) = u := ⟨_, rfl⟩
            have hb : Below w8.heap.size u3 u4 := by rw [← hu]; exact ((Below.refl _ _).setCell (p := ⟨BN, 0, none⟩) BNN.out _).setCell (p := ⟨BN, 1, none⟩) BNN.out _
            replace KBN := Lib.hid ((KBN.out.set 0 (.int .i64 x1)).set 1 (.bool x2))
            rw [hu] at KBN ⊢
            clear hu
            replace T := Lib.hid (T.out.trans hb)
            refine ⟨hb, ?_⟩
            clear hb
            refine WT_yes 12 rfl (by kernel_rfl) (fun _ _ _ _ _ h => h) (by rfl) ?_; apply Exists.intro; refine ⟨fun w1 hb1 => ?_, ?_⟩; (focus ((skip; have hb1 := Lib.hid hb1; go_simp); (try (go_bits; try go_simp)); (try (rw [if_pos (by omega)]; try go_simp)); (first | done | (fail) | (with_reducible rfl) | exact rfl)))
            simp only [Act.put, List.setIfInBounds_toArray, List.set_cons_zero, List.set_cons_succ]
            refine WT_done (by kernel_rfl) ?_
            go_wp2_with fail
            go_meet
            case rel => exact ⟨BN, rfl, rfl, KBN, T⟩
          · unfold stepT
            go_wp2_with fail
            obtain ⟨u2, hwA⟩ : ∃ wA, u1.alloc (.cells #[.int .i64 0, .bool false] 46) = wA := ⟨_, rfl⟩
            rw [hwA]
            have hb : Below u1.heap.size u1 u2 := by subst hwA; exact bAlloc (bSelf _) _
            replace HR1 := Lib.hid (HR1.out.to hb)
            have KBN : Hid (Blk u2 u1.heap.size #[.int .i64 0, .bool false]) := by subst hwA; exact Blk.new _ _ _
            clear hwA
            have BNN : Hid (w8.heap.size ≤ u1.heap.size) := Lib.hid T.out.size
            obtain ⟨BN, hBN⟩ : ∃ N, u1.heap.size = N := ⟨_, rfl⟩
            have hbd := Lib.hid (hb.mono T.out.size)
            replace T := Lib.hid (bThen T.out hb)
            clear hb
            rw [hBN] at KBN BNN  ⊢
            clear hBN
            refine ⟨hbd.out, ?_⟩
            clear hbd
            refine WT_one 6 rfl (by kernel_rfl) ?_
            unfold stepT
            go_wp2_with fail
            refine (HNB.out _ _ _ HR1.out).mono ?_
            rintro e u3 ⟨rfl, hb⟩
            replace KBN := Lib.hid (KBN.out.to hb)
            replace HR1 := Lib.hid (HR1.out.to hb)
            have hbd := Lib.hid (hb.mono T.out.size)
            replace T := Lib.hid (bThen T.out hb)
            clear hb
            go_wp2_with fail
            refine ⟨hbd.out, ?_⟩
            clear hbd
            refine WT_yes 7 rfl (by kernel_rfl) (fun _ _ _ _ _ h => h) (by rfl) ?_; apply Exists.intro; refine ⟨fun w1 hb1 => ?_, ?_⟩; (focus ((skip; have hb1 := Lib.hid hb1; go_simp); (try (go_bits; try go_simp)); (try (rw [if_pos (by omega)]; try go_simp)); (first | done | (fail) | (with_reducible rfl) | exact rfl)))
            simp only [Act.put, List.setIfInBounds_toArray, List.set_cons_zero, List.set_cons_succ]
            refine WT_yes 8 rfl (by kernel_rfl) (fun _ _ _ _ _ h => h) (by rfl) ?_; apply Exists.intro; refine ⟨fun w1 hb1 => ?_, ?_⟩; (focus ((skip; have hb1 := Lib.hid hb1; go_simp); (try (go_bits; try go_simp)); (try (rw [if_pos (by omega)]; try go_simp)); (first | done | (fail) | (with_reducible rfl) | exact rfl)))
            simp only [Act.put, List.setIfInBounds_toArray, List.set_cons_zero, List.set_cons_succ]
            refine WT_yes 9 rfl (by kernel_rfl) (fun _ _ _ _ _ h => h) (by rfl) ?_; apply Exists.intro; refine ⟨fun w1 hb1 => ?_, ?_⟩; (focus ((skip; have hb1 := Lib.hid hb1; go_simp); (try (go_bits; try go_simp)); (try (rw [if_pos (by omega)]; try go_simp)); (first | done | (fail) | (with_reducible rfl) | exact rfl)))
            simp only [Act.put, List.setIfInBounds_toArray, List.set_cons_zero, List.set_cons_succ]
            refine WT_one 11 rfl (by kernel_rfl) ?_
            unfold stepT
            obtain ⟨-, kx, fx⟩ := KBN.out
            go_wp2_with fail
            clear kx fx
            obtain ⟨u4, hu⟩ : ∃ u, (u3.setCell ⟨BN, 0, none⟩ (.int .i64 x1)).setCell ⟨BN, 1, none⟩ (.bool x2) = u := ⟨_, rfl⟩
            have hb : Below w8.heap.size u3 u4 := by rw [← hu]; exact ((Below.refl _ _).setCell (p := ⟨BN, 0, none⟩) BNN.out _).setCell (p := ⟨BN, 1, none⟩) BNN.out _
            replace KBN := Lib.hid ((KBN.out.set 0 (.int .i64 x1)).set 1 (.bool x2))
            rw [hu] at KBN ⊢
            clear hu
            replace T := Lib.hid (T.out.trans hb)
            refine ⟨hb, ?_⟩
            clear hb
            refine WT_yes 12 rfl (by kernel_rfl) (fun _ _ _ _ _ h => h) (by rfl) ?_; apply Exists.intro; refine ⟨fun w1 hb1 => ?_, ?_⟩; (focus ((skip; have hb1 := Lib.hid hb1; go_simp); (try (go_bits; try go_simp)); (try (rw [if_pos (by omega)]; try go_simp)); (first | done | (fail) | (with_reducible rfl) | exact rfl)))
            simp only [Act.put, List.setIfInBounds_toArray, List.set_cons_zero, List.set_cons_succ]
            refine WT_done (by kernel_rfl) ?_
            go_wp2_with fail
            go_meet
            case rel => exact ⟨BN, rfl, rfl, KBN, T⟩
        · unfold stepT
          go_wp2_with fail
          obtain ⟨u1, hwA⟩ : ∃ wA, wd.alloc (.cells #[.int .i64 0, .bool false] 46) = wA := ⟨_, rfl⟩
          rw [hwA]
          have hb : Below wd.heap.size wd u1 := by subst hwA; exact bAlloc (bSelf _) _
          have KBN : Hid (Blk u1 wd.heap.size #[.int .i64 0, .bool false]) := by subst hwA; exact Blk.new _ _ _
          clear hwA
          have BNN : Hid (w8.heap.size ≤ wd.heap.size) := Lib.hid T.out.size
          obtain ⟨BN, hBN⟩ : ∃ N, wd.heap.size = N := ⟨_, rfl⟩
          have hbd := Lib.hid (hb.mono T.out.size)
          replace T := Lib.hid (bThen T.out hb)
          clear hb
          rw [hBN] at KBN BNN  ⊢
          clear hBN
          refine ⟨hbd.out, ?_⟩
          clear hbd
          refine WT_one 1 rfl (by kernel_rfl) ?_
          unfold stepT
          go_wp2_with fail
          refine (HCPY.out _ h10 (bThen HB.out T.out)).mono ?_
          rintro e u2 ⟨a1, c1, rfl, -, hr1, hb, -⟩
          replace KBN := Lib.hid (KBN.out.to hb)
          have HR1 := Lib.hid hr1
          clear hr1
          unfold plC
          rw [HM.out] at HR1 ⊢
          have hbd := Lib.hid (hb.mono T.out.size)
          replace T := Lib.hid (bThen T.out hb)
          clear hb
          go_wp2_with fail
          refine ⟨hbd.out, ?_⟩
          clear hbd
          refine WT_one 6 rfl (by kernel_rfl) ?_
          unfold stepT
          go_wp2_with fail
          refine (HNB.out _ _ _ HR1.out).mono ?_
          rintro e u3 ⟨rfl, hb⟩
          replace KBN := Lib.hid (KBN.out.to hb)
          replace HR1 := Lib.hid (HR1.out.to hb)
          have hbd := Lib.hid (hb.mono T.out.size)
          replace T := Lib.hid (bThen T.out hb)
          clear hb
          go_wp2_with fail
          refine ⟨hbd.out, ?_⟩
          clear hbd
          refine WT_yes 7 rfl (by kernel_rfl) (fun _ _ _ _ _ h => h) (by rfl) ?_; apply Exists.intro; refine ⟨fun w1 hb1 => ?_, ?_⟩; (focus ((skip; have hb1 := Lib.hid hb1; go_simp); (try (go_bits; try go_simp)); (try (rw [if_pos (by omega)]; try go_simp)); (first | done | (fail) | (with_reducible rfl) | exact rfl)))
          simp only [Act.put, List.setIfInBounds_toArray, List.set_cons_zero, List.set_cons_succ]
          refine WT_yes 8 rfl (by kernel_rfl) (fun _ _ _ _ _ h => h) (by rfl) ?_; apply Exists.intro; refine ⟨fun w1 hb1 => ?_, ?_⟩; (focus ((skip; have hb1 := Lib.hid hb1; go_simp); (try (go_bits; try go_simp)); (try (rw [if_pos (by omega)]; try go_simp)); (first | done | (fail) | (with_reducible rfl) | exact rfl)))
          simp only [Act.put, List.setIfInBounds_toArray, List.set_cons_zero, List.set_cons_succ]
          refine WT_yes 9 rfl (by kernel_rfl) (fun _ _ _ _ _ h => h) (by rfl) ?_; apply Exists.intro; refine ⟨fun w1 hb1 => ?_, ?_⟩; (focus ((skip; have hb1 := Lib.hid hb1; go_simp); (try (go_bits; try go_simp)); (try (rw [if_pos (by omega)]; try go_simp)); (first | done | (fail) | (with_reducible rfl) | exact rfl)))
          simp only [Act.put, List.setIfInBounds_toArray, List.set_cons_zero, List.set_cons_succ]
          refine WT_one 11 rfl (by kernel_rfl) ?_
          unfold stepT
          obtain ⟨-, kx, fx⟩ := KBN.out
          go_wp2_with fail
          clear kx fx
          obtain ⟨u4, hu⟩ : ∃ u, (u3.setCell ⟨BN, 0, none⟩ (.int .i64 x1)).setCell ⟨BN, 1, none⟩ (.bool x2) = u := ⟨_, rfl⟩
          have hb : Below w8.heap.size u3 u4 := by rw [← hu]; exact ((Below.refl _ _).setCell (p := ⟨BN, 0, none⟩) BNN.out _).setCell (p := ⟨BN, 1, none⟩) BNN.out _
          replace KBN := Lib.hid ((KBN.out.set 0 (.int .i64 x1)).set 1 (.bool x2))
          rw [hu] at KBN ⊢
          clear hu
          replace T := Lib.hid (T.out.trans hb)
          refine ⟨hb, ?_⟩
          clear hb
          refine WT_yes 12 rfl (by kernel_rfl) (fun _ _ _ _ _ h => h) (by rfl) ?_; apply Exists.intro; refine ⟨fun w1 hb1 => ?_, ?_⟩; (focus ((skip; have hb1 := Lib.hid hb1; go_simp); (try (go_bits; try go_simp)); (try (rw [if_pos (by omega)]; try go_simp)); (first | done | (fail) | (with_reducible rfl) | exact rfl)))
          simp only [Act.put, List.setIfInBounds_toArray, List.set_cons_zero, List.set_cons_succ]
          refine WT_done (by kernel_rfl) ?_
          go_wp2_with fail
          go_meet
          case rel => exact ⟨BN, rfl, rfl, KBN, T⟩
      obtain ⟨wp, hwp⟩ : ∃ wp, wp = wc := ⟨_, rfl⟩
      subst hwp
      obtain ⟨B13, rfl, rfl, K13, hb⟩ := hcut
      replace hb := hb.out
      have HT := Lib.hid hb
      replace K3 := Lib.hid (K3.out.to hb)
      replace K4 := Lib.hid (K4.out.to hb)
      replace HB := Lib.hid (bThen HB.out hb)
      have hb3 : b < wp.heap.size := Nat.lt_of_lt_of_le hb2 hb.size
      replace C0 := Lib.hid ((hb.cell (p := ⟨b, off, none⟩) hb2).trans C0.out)
      clear hb
      obtain ⟨m1, hm1⟩ : ∃ m, max d 0 = m := ⟨_, rfl⟩
      obtain ⟨m2, hm2⟩ : ∃ m, min m1 50 = m := ⟨_, rfl⟩
      have hm3 : 0 ≤ m2 ∧ m2 ≤ 50 := by omega
      have HMD : Hid (wthn d 0 50 = true → m2 = d) := Lib.hid (fun h => by have := wthn_iff.1 h; omega)
      have HRW := Lib.hid (fun W hb => HNR.out W m2 hm3 hb)
      have HM1 := Lib.hid hm1
      have HM2 := Lib.hid hm2
      clear hm1 hm2 hm3 HNR
      obtain ⟨gt, hgt⟩ : ∃ x, (nxtA p (s1, sr) m2).getD (0, false) = x := ⟨_, rfl⟩
      obtain ⟨gk, hgk⟩ : ∃ x, (nxtA p (s1, sr) m2).isSome = x := ⟨_, rfl⟩
      rw [hgt, hgk] at HRW
      have HGT := Lib.hid hgt
      have HGK := Lib.hid hgk
      clear hgt hgk
      obtain ⟨t1, t2⟩ := gt
      dsimp only at HRW
      go_upto_region 17 with (fail)
      go_cut [15, 16] from 86 to 107 (fun s15 s16 wc => ∃ B, s15 = .pointer (some ⟨B, 0, none⟩) ∧ s16 = .bool gk ∧ Hid (Blk wc B #[.int .i64 t1, .bool t2]) ∧ Hid (Below wp.heap.size wp wc))
      case first =>
        refine wp_region_tree (by kernel_rfl) (fun wd hwd => ?_)
        have T := Lib.hid hwd
        clear hwd
        refine WT_yes 0 rfl (by kernel_rfl) (fun _ _ _ _ _ h => h) (by rfl) ?_; apply Exists.intro; refine ⟨fun w1 hb1 => ?_, ?_⟩; (focus (((obtain ⟨-, k3, -⟩ := K3.out.to (T.out.trans hb1)); have hb1 := Lib.hid hb1; go_simp); (try (go_bits; try go_simp)); (try (rw [if_pos (by omega)]; try go_simp)); (first | done | (fail) | (with_reducible rfl) | exact rfl)))
        simp only [Act.put, List.setIfInBounds_toArray, List.set_cons_zero, List.set_cons_succ]
        refine WT_yes 1 rfl (by kernel_rfl) (fun _ _ _ _ _ h => h) (by rfl) ?_; apply Exists.intro; refine ⟨fun w1 hb1 => ?_, ?_⟩; (focus (((obtain ⟨-, k4, -⟩ := K4.out.to (T.out.trans hb1)); have hb1 := Lib.hid hb1; go_simp); (try (go_bits; try go_simp)); (try (rw [if_pos (by omega)]; try go_simp)); (first | done | (fail) | (with_reducible rfl) | exact rfl)))
        simp only [Act.put, List.setIfInBounds_toArray, List.set_cons_zero, List.set_cons_succ]
        refine WT_yes 2 rfl (by kernel_rfl) (fun _ _ _ _ _ h => h) (by rfl) ?_; apply Exists.intro; refine ⟨fun w1 hb1 => ?_, ?_⟩; (focus ((skip; have hb1 := Lib.hid hb1; go_simp); (try (go_bits; try go_simp)); (try (rw [if_pos (by omega)]; try go_simp)); (first | done | (fail) | (with_reducible rfl) | exact rfl)))
        simp only [Act.put, List.setIfInBounds_toArray, List.set_cons_zero, List.set_cons_succ]
        refine WT_yes 3 rfl (by kernel_rfl) (fun _ _ _ _ _ h => h) (by rfl) ?_; apply Exists.intro; refine ⟨fun w1 hb1 => ?_, ?_⟩; (focus ((skip; have hb1 := Lib.hid hb1; go_simp); (try (go_bits; try go_simp)); (try (rw [if_pos (by omega)]; try go_simp)); (first | done | (fail) | (with_reducible rfl) | exact rfl)))
        simp only [Act.put, List.setIfInBounds_toArray, List.set_cons_zero, List.set_cons_succ]
        refine WT_yes 4 rfl (by kernel_rfl) (fun _ _ _ _ _ h => h) (by rfl) ?_; apply Exists.intro; refine ⟨fun w1 hb1 => ?_, ?_⟩; (focus (((have c0 := (hb1.cell (p := ⟨b, off, none⟩) hb3).trans ((T.out.cell (p := ⟨b, off, none⟩) hb3).trans C0.out)); have hb1 := Lib.hid hb1; go_simp); (try (go_bits; try go_simp)); (try (rw [if_pos (by omega)]; try go_simp)); (first | done | (fail) | (with_reducible rfl) | exact rfl)))
        simp only [Act.put, List.setIfInBounds_toArray, List.set_cons_zero, List.set_cons_succ]
        refine WT_yes 5 rfl (by kernel_rfl) (fun _ _ _ _ _ h => h) (by rfl) ⟨.int .i64 m1, fun w1 hb1 => (by have hm := HM1.out; go_simp; try (split <;> omega)), ?_⟩
        simp only [Act.put, List.setIfInBounds_toArray, List.set_cons_zero, List.set_cons_succ]
        refine WT_yes 6 rfl (by kernel_rfl) (fun _ _ _ _ _ h => h) (by rfl) ⟨.int .i64 m2, fun w1 hb1 => (by have hm := HM2.out; go_simp; try (split <;> omega)), ?_⟩
        simp only [Act.put, List.setIfInBounds_toArray, List.set_cons_zero, List.set_cons_succ]
        refine WT_two 7 11 rfl rfl (by kernel_rfl) ?_ ?_
        · unfold stepT
          go_wp2_with fail
          refine (HRW.out _ (bThen HB.out T.out)).mono ?_
          rintro e u1 ⟨rfl, hb⟩
          have hbd := Lib.hid (hb.mono T.out.size)
          replace T := Lib.hid (bThen T.out hb)
          clear hb
          go_wp2_with fail
          refine ⟨hbd.out, ?_⟩
          clear hbd
          refine WT_yes 8 rfl (by kernel_rfl) (fun _ _ _ _ _ h => h) (by rfl) ?_; apply Exists.intro; refine ⟨fun w1 hb1 => ?_, ?_⟩; (focus ((skip; have hb1 := Lib.hid hb1; go_simp); (try (go_bits; try go_simp)); (try (rw [if_pos (by omega)]; try go_simp)); (first | done | (fail) | (with_reducible rfl) | exact rfl)))
          simp only [Act.put, List.setIfInBounds_toArray, List.set_cons_zero, List.set_cons_succ]
          refine WT_yes 9 rfl (by kernel_rfl) (fun _ _ _ _ _ h => h) (by rfl) ?_; apply Exists.intro; refine ⟨fun w1 hb1 => ?_, ?_⟩; (focus ((skip; have hb1 := Lib.hid hb1; go_simp); (try (go_bits; try go_simp)); (try (rw [if_pos (by omega)]; try go_simp)); (first | done | (fail) | (with_reducible rfl) | exact rfl)))
          simp only [Act.put, List.setIfInBounds_toArray, List.set_cons_zero, List.set_cons_succ]
          refine WT_yes 10 rfl (by kernel_rfl) (fun _ _ _ _ _ h => h) (by rfl) ?_; apply Exists.intro; refine ⟨fun w1 hb1 => ?_, ?_⟩; (focus ((skip; have hb1 := Lib.hid hb1; go_simp); (try (go_bits; try go_simp)); (try (rw [if_pos (by omega)]; try go_simp)); (first | done | (fail) | (with_reducible rfl) | exact rfl)))
          simp only [Act.put, List.setIfInBounds_toArray, List.set_cons_zero, List.set_cons_succ]
          refine WT_one 11 rfl (by kernel_rfl) ?_
          unfold stepT
          go_wp2_with fail
          obtain ⟨u2, hwA⟩ : ∃ wA, u1.alloc (.cells #[.int .i64 0, .bool false] 46) = wA := ⟨_, rfl⟩
          rw [hwA]
          have hb : Below u1.heap.size u1 u2 := by subst hwA; exact bAlloc (bSelf _) _
          have KBM : Hid (Blk u2 u1.heap.size #[.int .i64 0, .bool false]) := by subst hwA; exact Blk.new _ _ _
          clear hwA
          have BMN : Hid (wp.heap.size ≤ u1.heap.size) := Lib.hid T.out.size
          obtain ⟨BM, hBM⟩ : ∃ N, u1.heap.size = N := ⟨_, rfl⟩
          have hbd := Lib.hid (hb.mono T.out.size)
          replace T := Lib.hid (bThen T.out hb)
          clear hb
          rw [hBM] at KBM BMN  ⊢
          clear hBM
          refine ⟨hbd.out, ?_⟩
          clear hbd
          refine WT_one 12 rfl (by kernel_rfl) ?_
          unfold stepT
          obtain ⟨-, kx, fx⟩ := KBM.out
          go_wp2_with fail
          clear kx fx
          obtain ⟨u3, hu⟩ : ∃ u, (u2.setCell ⟨BM, 0, none⟩ (.int .i64 t1)).setCell ⟨BM, 1, none⟩ (.bool t2) = u := ⟨_, rfl⟩
          have hb : Below wp.heap.size u2 u3 := by rw [← hu]; exact ((Below.refl _ _).setCell (p := ⟨BM, 0, none⟩) BMN.out _).setCell (p := ⟨BM, 1, none⟩) BMN.out _
          replace KBM := Lib.hid ((KBM.out.set 0 (.int .i64 t1)).set 1 (.bool t2))
          rw [hu] at KBM ⊢
          clear hu
          replace T := Lib.hid (T.out.trans hb)
          refine ⟨hb, ?_⟩
          clear hb
          refine WT_yes 13 rfl (by kernel_rfl) (fun _ _ _ _ _ h => h) (by rfl) ?_; apply Exists.intro; refine ⟨fun w1 hb1 => ?_, ?_⟩; (focus ((skip; have hb1 := Lib.hid hb1; go_simp); (try (go_bits; try go_simp)); (try (rw [if_pos (by omega)]; try go_simp)); (first | done | (fail) | (with_reducible rfl) | exact rfl)))
          simp only [Act.put, List.setIfInBounds_toArray, List.set_cons_zero, List.set_cons_succ]
          refine WT_done (by kernel_rfl) ?_
          go_wp2_with fail
          go_meet
          case rel => exact ⟨BM, rfl, rfl, KBM, T⟩
        · unfold stepT
          go_wp2_with fail
          obtain ⟨u1, hwA⟩ : ∃ wA, wd.alloc (.cells #[.int .i64 0, .bool false] 46) = wA := ⟨_, rfl⟩
          rw [hwA]
          have hb : Below wd.heap.size wd u1 := by subst hwA; exact bAlloc (bSelf _) _
          have KBM : Hid (Blk u1 wd.heap.size #[.int .i64 0, .bool false]) := by subst hwA; exact Blk.new _ _ _
          clear hwA
          have BMN : Hid (wp.heap.size ≤ wd.heap.size) := Lib.hid T.out.size
          obtain ⟨BM, hBM⟩ : ∃ N, wd.heap.size = N := ⟨_, rfl⟩
          have hbd := Lib.hid (hb.mono T.out.size)
          replace T := Lib.hid (bThen T.out hb)
          clear hb
          rw [hBM] at KBM BMN  ⊢
          clear hBM
          refine ⟨hbd.out, ?_⟩
          clear hbd
          refine WT_one 7 rfl (by kernel_rfl) ?_
          unfold stepT
          go_wp2_with fail
          refine (HRW.out _ (bThen HB.out T.out)).mono ?_
          rintro e u2 ⟨rfl, hb⟩
          replace KBM := Lib.hid (KBM.out.to hb)
          have hbd := Lib.hid (hb.mono T.out.size)
          replace T := Lib.hid (bThen T.out hb)
          clear hb
          go_wp2_with fail
          refine ⟨hbd.out, ?_⟩
          clear hbd
          refine WT_yes 8 rfl (by kernel_rfl) (fun _ _ _ _ _ h => h) (by rfl) ?_; apply Exists.intro; refine ⟨fun w1 hb1 => ?_, ?_⟩; (focus ((skip; have hb1 := Lib.hid hb1; go_simp); (try (go_bits; try go_simp)); (try (rw [if_pos (by omega)]; try go_simp)); (first | done | (fail) | (with_reducible rfl) | exact rfl)))
          simp only [Act.put, List.setIfInBounds_toArray, List.set_cons_zero, List.set_cons_succ]
          refine WT_yes 9 rfl (by kernel_rfl) (fun _ _ _ _ _ h => h) (by rfl) ?_; apply Exists.intro; refine ⟨fun w1 hb1 => ?_, ?_⟩; (focus ((skip; have hb1 := Lib.hid hb1; go_simp); (try (go_bits; try go_simp)); (try (rw [if_pos (by omega)]; try go_simp)); (first | done | (fail) | (with_reducible rfl) | exact rfl)))
          simp only [Act.put, List.setIfInBounds_toArray, List.set_cons_zero, List.set_cons_succ]
          refine WT_yes 10 rfl (by kernel_rfl) (fun _ _ _ _ _ h => h) (by rfl) ?_; apply Exists.intro; refine ⟨fun w1 hb1 => ?_, ?_⟩; (focus ((skip; have hb1 := Lib.hid hb1; go_simp); (try (go_bits; try go_simp)); (try (rw [if_pos (by omega)]; try go_simp)); (first | done | (fail) | (with_reducible rfl) | exact rfl)))
          simp only [Act.put, List.setIfInBounds_toArray, List.set_cons_zero, List.set_cons_succ]
          refine WT_one 12 rfl (by kernel_rfl) ?_
          unfold stepT
          obtain ⟨-, kx, fx⟩ := KBM.out
          go_wp2_with fail
          clear kx fx
          obtain ⟨u3, hu⟩ : ∃ u, (u2.setCell ⟨BM, 0, none⟩ (.int .i64 t1)).setCell ⟨BM, 1, none⟩ (.bool t2) = u := ⟨_, rfl⟩
          have hb : Below wp.heap.size u2 u3 := by rw [← hu]; exact ((Below.refl _ _).setCell (p := ⟨BM, 0, none⟩) BMN.out _).setCell (p := ⟨BM, 1, none⟩) BMN.out _
          replace KBM := Lib.hid ((KBM.out.set 0 (.int .i64 t1)).set 1 (.bool t2))
          rw [hu] at KBM ⊢
          clear hu
          replace T := Lib.hid (T.out.trans hb)
          refine ⟨hb, ?_⟩
          clear hb
          refine WT_yes 13 rfl (by kernel_rfl) (fun _ _ _ _ _ h => h) (by rfl) ?_; apply Exists.intro; refine ⟨fun w1 hb1 => ?_, ?_⟩; (focus ((skip; have hb1 := Lib.hid hb1; go_simp); (try (go_bits; try go_simp)); (try (rw [if_pos (by omega)]; try go_simp)); (first | done | (fail) | (with_reducible rfl) | exact rfl)))
          simp only [Act.put, List.setIfInBounds_toArray, List.set_cons_zero, List.set_cons_succ]
          refine WT_done (by kernel_rfl) ?_
          go_wp2_with fail
          go_meet
          case rel => exact ⟨BM, rfl, rfl, KBM, T⟩
      obtain ⟨wq, hwq⟩ : ∃ wq, wq = wc := ⟨_, rfl⟩
      subst hwq
      obtain ⟨B15, rfl, rfl, K15, hb⟩ := hcut
      replace hb := hb.out
      replace HT := Lib.hid (bThen HT.out hb)
      replace K3 := Lib.hid (K3.out.to hb)
      replace K4 := Lib.hid (K4.out.to hb)
      replace HB := Lib.hid (bThen HB.out hb)
      replace K13 := Lib.hid (K13.out.to hb)
      replace C0 := Lib.hid ((hb.cell (p := ⟨b, off, none⟩) hb3).trans C0.out)
      clear hb
      have c0 := C0.out
      obtain ⟨-, k13, -⟩ := K13.out
      obtain ⟨-, k15, -⟩ := K15.out
      have HFL := Lib.hid (fun W => rFlowErr_any d W)
      cases hf : wthn d 0 50
      · rw [hf] at HV HFL
        obtain ⟨v1, v2⟩ := HV.out
        rw [if_neg (by decide)] at v1 v2
        subst v1
        cases v2
        go_wp2_with (first | (go_at_call 33; refine (HFL.out _).mono ?_; rintro e w' ⟨rfl, rfl⟩; rw [show unl false 2 = 2 from rfl]))
        go_meet
        case rel => exact HT
      · rw [hf] at HV HFL
        obtain ⟨v1, v2⟩ := HV.out
        rw [if_pos rfl] at v1 v2
        rw [← HMD.out hf] at v1 v2
        rw [HGT.out] at v2
        rw [HGK.out] at v1
        cases v2
        cases gk
        · have hx : nxtA p (s1, sr) m2 = none := by simpa using HGK.out
          have hy := HGT.out
          rw [hx] at hy
          cases hy
          have v3 : fr = 22 := v1
          clear v1
          subst v3
          go_wp2_with (first | (go_at_call 33; refine (HFL.out _).mono ?_; rintro e w' ⟨rfl, rfl⟩; rw [show unl true 2 = 0 from rfl]))
          go_meet
          case rel => exact HT
        · have v3 : fr = 0 := v1
          clear v1
          subst v3
          go_wp2_with (first | (go_at_call 33; refine (HFL.out _).mono ?_; rintro e w' ⟨rfl, rfl⟩; rw [show unl true 2 = 0 from rfl]))
          go_meet
          case rel => exact HT
  obtain ⟨wr0, hwr0⟩ : ∃ wr, wr = wc := ⟨_, rfl⟩
  subst hwr0
  have hb := hcut.out
  replace K3 := Lib.hid (K3.out.to hb)
  replace K4 := Lib.hid (K4.out.to hb)
  replace HB := Lib.hid (bThen HB.out hb)
  replace HL := Lib.hid (HL.out.to hb)
  clear hb hcut HNR HNV
  have hrl : ro.length ≤ 23 := by have := HRL.out; omega
  go_wp2_with fail
  go_loopw [17, 18, 19, 145] (fun i _ _ _ wr => ∃ (k : Nat), i = .int .i64 k ∧ (k ≤ ro.length) ∧ Hid (Below wr0.heap.size wr0 wr)) (fun i _ _ _ _ => ro.length - (intOf i).toNat)
  case atStart => exact ⟨0, rfl, Nat.zero_le _, Lib.hid (Below.refl _ _)⟩
  case round =>
    obtain ⟨k, rfl, hk, HR0⟩ := hrel
    by_cases hlt : k + 1 < ro.length
    · obtain ⟨hkn, hx, hy⟩ := HST.out k hlt
      have hlt2 : k < ro.length := by omega
      obtain ⟨b, off, rfl, hb, hc⟩ := HDR.out.at (k := k) hkn
      obtain ⟨g, go, rfl, hg, hgc⟩ := (HL.out.to HR0.out).at (k := k * 2) (by omega)
      obtain ⟨d, hd⟩ : ∃ d, gi ds k = d := ⟨_, rfl⟩
      obtain ⟨⟨n1, d1⟩, hz⟩ : ∃ q, sg ro k = q := ⟨_, rfl⟩
      obtain ⟨⟨n2, d2⟩, hz2⟩ : ∃ q, sg ro (k + 1) = q := ⟨_, rfl⟩
      have hb2 : b < wr.heap.size := Nat.lt_of_lt_of_le hb (Nat.le_trans HB.out.size HR0.out.size)
      have C0 : Hid (wr.cell? ⟨b, off + k, none⟩ = some (.int .i64 d)) := Lib.hid ((((bThen HB.out HR0.out).cell (p := ⟨b, off + k, none⟩) hb).trans (hc k hkn)).trans (by unfold ints; rw [hd]))
      have E0 : Hid (wr.cell? ⟨g, go + k * 2, none⟩ = some (.int .i64 n1)) := Lib.hid (by rw [hgc _ (by omega), osts0, hz])
      have E1 : Hid (wr.cell? ⟨g, go + k * 2 + 1, none⟩ = some (.bool d1)) := Lib.hid (by rw [Nat.add_assoc, hgc _ (by omega), osts1, hz])
      have E2 : Hid (wr.cell? ⟨g, go + (k + 1) * 2, none⟩ = some (.int .i64 n2)) := Lib.hid (by rw [hgc _ (by omega), osts0, hz2])
      have E3 : Hid (wr.cell? ⟨g, go + (k + 1) * 2 + 1, none⟩ = some (.bool d2)) := Lib.hid (by rw [Nat.add_assoc, hgc _ (by omega), osts1, hz2])
      rw [hz, hd] at hx
      rw [hz, hd, hz2] at hy
      have HNB := Lib.hid (fun W a1 c1 h => HNX.out W a1 c1 (n1, d1) d h10 h)
      rw [hx, hy] at HNB
      dsimp only at HNB
      replace K3 := Lib.hid (K3.out.to HR0.out)
      replace HB := Lib.hid (bThen HB.out HR0.out)
      clear hx hy hc hgc hd hz hz2 hb HNX HST
      go_wp2_with fail
      refine wp_region_tree (by kernel_rfl) (fun wd hwd => ?_)
      have T := Lib.hid hwd
      clear hwd
      refine WT_yes 0 rfl (by kernel_rfl) (fun _ _ _ _ _ h => h) (by rfl) ?_; apply Exists.intro; refine ⟨fun w1 hb1 => ?_, ?_⟩; (focus (((obtain ⟨-, k3, -⟩ := K3.out.to (T.out.trans hb1)); have hb1 := Lib.hid hb1; go_simp); (try (go_bits; try go_simp)); (try (rw [if_pos (by omega)]; try go_simp)); (first | done | (fail) | (with_reducible rfl) | exact rfl)))
      simp only [Act.put, List.setIfInBounds_toArray, List.set_cons_zero, List.set_cons_succ]
      refine WT_yes 2 rfl (by kernel_rfl) (fun _ _ _ _ _ h => h) (by rfl) ?_; apply Exists.intro; refine ⟨fun w1 hb1 => ?_, ?_⟩; (focus ((skip; have hb1 := Lib.hid hb1; go_simp); (try (go_bits; try go_simp)); (try (rw [if_pos (by omega)]; try go_simp)); (first | done | (fail) | (with_reducible rfl) | exact rfl)))
      simp only [Act.put, List.setIfInBounds_toArray, List.set_cons_zero, List.set_cons_succ]
      refine WT_yes 3 rfl (by kernel_rfl) (fun _ _ _ _ _ h => h) (by rfl) ?_; apply Exists.intro; refine ⟨fun w1 hb1 => ?_, ?_⟩; (focus ((skip; have hb1 := Lib.hid hb1; go_simp); (try (go_bits; try go_simp)); (try (rw [if_pos (by omega)]; try go_simp)); (first | done | (fail) | (with_reducible rfl) | exact rfl)))
      simp only [Act.put, List.setIfInBounds_toArray, List.set_cons_zero, List.set_cons_succ]
      refine WT_yes 4 rfl (by kernel_rfl) (fun _ _ _ _ _ h => h) (by rfl) ?_; apply Exists.intro; refine ⟨fun w1 hb1 => ?_, ?_⟩; (focus ((skip; have hb1 := Lib.hid hb1; go_simp); (try (go_bits; try go_simp)); (try (rw [if_pos (by omega)]; try go_simp)); (first | done | (fail) | (with_reducible rfl) | exact rfl)))
      simp only [Act.put, List.setIfInBounds_toArray, List.set_cons_zero, List.set_cons_succ]
      refine WT_yes 5 rfl (by kernel_rfl) (fun _ _ _ _ _ h => h) (by rfl) ?_; apply Exists.intro; refine ⟨fun w1 hb1 => ?_, ?_⟩; (focus (((have e0 := (hb1.cell (p := ⟨g, go + k * 2, none⟩) hg).trans ((T.out.cell (p := ⟨g, go + k * 2, none⟩) hg).trans E0.out); have e1 := (hb1.cell (p := ⟨g, go + k * 2 + 1, none⟩) hg).trans ((T.out.cell (p := ⟨g, go + k * 2 + 1, none⟩) hg).trans E1.out)); have hb1 := Lib.hid hb1; go_simp); (try (go_bits; try go_simp)); (try (rw [if_pos (by omega)]; try go_simp)); (first | done | (fail) | (with_reducible rfl) | exact rfl)))
      simp only [Act.put, List.setIfInBounds_toArray, List.set_cons_zero, List.set_cons_succ]
      refine WT_yes 6 rfl (by kernel_rfl) (fun _ _ _ _ _ h => h) (by rfl) ?_; apply Exists.intro; refine ⟨fun w1 hb1 => ?_, ?_⟩; (focus ((skip; have hb1 := Lib.hid hb1; go_simp); (try (go_bits; try go_simp)); (try (rw [if_pos (by omega)]; try go_simp)); (first | done | (fail) | (with_reducible rfl) | exact rfl)))
      simp only [Act.put, List.setIfInBounds_toArray, List.set_cons_zero, List.set_cons_succ]
      refine WT_yes 7 rfl (by kernel_rfl) (fun _ _ _ _ _ h => h) (by rfl) ?_; apply Exists.intro; refine ⟨fun w1 hb1 => ?_, ?_⟩; (focus ((skip; have hb1 := Lib.hid hb1; go_simp); (try (go_bits; try go_simp)); (try (rw [if_pos (by omega)]; try go_simp)); (first | done | (fail) | (with_reducible rfl) | exact rfl)))
      simp only [Act.put, List.setIfInBounds_toArray, List.set_cons_zero, List.set_cons_succ]
      refine WT_yes 8 rfl (by kernel_rfl) (fun _ _ _ _ _ h => h) (by rfl) ?_; apply Exists.intro; refine ⟨fun w1 hb1 => ?_, ?_⟩; (focus ((skip; have hb1 := Lib.hid hb1; go_simp); (try (go_bits; try go_simp)); (try (rw [if_pos (by omega)]; try go_simp)); (first | done | (fail) | (with_reducible rfl) | exact rfl)))
      simp only [Act.put, List.setIfInBounds_toArray, List.set_cons_zero, List.set_cons_succ]
      refine WT_yes 9 rfl (by kernel_rfl) (fun _ _ _ _ _ h => h) (by rfl) ?_; apply Exists.intro; refine ⟨fun w1 hb1 => ?_, ?_⟩; (focus (((have c0 := (hb1.cell (p := ⟨b, off + k, none⟩) hb2).trans ((T.out.cell (p := ⟨b, off + k, none⟩) hb2).trans C0.out)); have hb1 := Lib.hid hb1; go_simp); (try (go_bits; try go_simp)); (try (rw [if_pos (by omega)]; try go_simp)); (first | done | (fail) | (with_reducible rfl) | exact rfl)))
      simp only [Act.put, List.setIfInBounds_toArray, List.set_cons_zero, List.set_cons_succ]
      refine WT_two 1 14 rfl rfl (by kernel_rfl) ?_ ?_
      · unfold stepT
        go_wp2_with fail
        refine (HCPY.out _ h10 (bThen HB.out T.out)).mono ?_
        rintro e u1 ⟨a1, c1, rfl, -, hr1, hb, -⟩
        have HR1 := Lib.hid hr1
        clear hr1
        unfold plC
        rw [HM.out] at HR1 ⊢
        have hbd := Lib.hid (hb.mono T.out.size)
        replace T := Lib.hid (bThen T.out hb)
        clear hb
        go_wp2_with fail
        refine ⟨hbd.out, ?_⟩
        clear hbd
        refine WT_two 10 14 rfl rfl (by kernel_rfl) ?_ ?_
        · unfold stepT
          go_wp2_with fail
          refine (HNB.out _ _ _ HR1.out).mono ?_
          rintro e u2 ⟨rfl, hb⟩
          replace HR1 := Lib.hid (HR1.out.to hb)
          have hbd := Lib.hid (hb.mono T.out.size)
          replace T := Lib.hid (bThen T.out hb)
          clear hb
          go_wp2_with fail
          refine ⟨hbd.out, ?_⟩
          clear hbd
          refine WT_yes 11 rfl (by kernel_rfl) (fun _ _ _ _ _ h => h) (by rfl) ?_; apply Exists.intro; refine ⟨fun w1 hb1 => ?_, ?_⟩; (focus ((skip; have hb1 := Lib.hid hb1; go_simp); (try (go_bits; try go_simp)); (try (rw [if_pos (by omega)]; try go_simp)); (first | done | (fail) | (with_reducible rfl) | exact rfl)))
          simp only [Act.put, List.setIfInBounds_toArray, List.set_cons_zero, List.set_cons_succ]
          refine WT_yes 12 rfl (by kernel_rfl) (fun _ _ _ _ _ h => h) (by rfl) ?_; apply Exists.intro; refine ⟨fun w1 hb1 => ?_, ?_⟩; (focus ((skip; have hb1 := Lib.hid hb1; go_simp); (try (go_bits; try go_simp)); (try (rw [if_pos (by omega)]; try go_simp)); (first | done | (fail) | (with_reducible rfl) | exact rfl)))
          simp only [Act.put, List.setIfInBounds_toArray, List.set_cons_zero, List.set_cons_succ]
          refine WT_yes 13 rfl (by kernel_rfl) (fun _ _ _ _ _ h => h) (by rfl) ?_; apply Exists.intro; refine ⟨fun w1 hb1 => ?_, ?_⟩; (focus ((skip; have hb1 := Lib.hid hb1; go_simp); (try (go_bits; try go_simp)); (try (rw [if_pos (by omega)]; try go_simp)); (first | done | (fail) | (with_reducible rfl) | exact rfl)))
          simp only [Act.put, List.setIfInBounds_toArray, List.set_cons_zero, List.set_cons_succ]
          refine WT_one 14 rfl (by kernel_rfl) ?_
          unfold stepT
          go_wp2_with fail
          obtain ⟨u3, hwA⟩ : ∃ wA, u2.alloc (.cells #[.int .i64 0, .bool false] 46) = wA := ⟨_, rfl⟩
          rw [hwA]
          have hb : Below u2.heap.size u2 u3 := by subst hwA; exact bAlloc (bSelf _) _
          replace HR1 := Lib.hid (HR1.out.to hb)
          have KBN : Hid (Blk u3 u2.heap.size #[.int .i64 0, .bool false]) := by subst hwA; exact Blk.new _ _ _
          clear hwA
          have BNN : Hid (wr.heap.size ≤ u2.heap.size) := Lib.hid T.out.size
          obtain ⟨BN, hBN⟩ : ∃ N, u2.heap.size = N := ⟨_, rfl⟩
          have hbd := Lib.hid (hb.mono T.out.size)
          replace T := Lib.hid (bThen T.out hb)
          clear hb
          rw [hBN] at KBN BNN  ⊢
          clear hBN
          refine ⟨hbd.out, ?_⟩
          clear hbd
          refine WT_one 15 rfl (by kernel_rfl) ?_
          unfold stepT
          obtain ⟨-, kx, fx⟩ := KBN.out
          go_wp2_with fail
          clear kx fx
          obtain ⟨u4, hu⟩ : ∃ u, (u3.setCell ⟨BN, 0, none⟩ (.int .i64 n2)).setCell ⟨BN, 1, none⟩ (.bool d2) = u := ⟨_, rfl⟩
          have hb : Below wr.heap.size u3 u4 := by rw [← hu]; exact ((Below.refl _ _).setCell (p := ⟨BN, 0, none⟩) BNN.out _).setCell (p := ⟨BN, 1, none⟩) BNN.out _
          replace KBN := Lib.hid ((KBN.out.set 0 (.int .i64 n2)).set 1 (.bool d2))
          rw [hu] at KBN ⊢
          clear hu
          replace T := Lib.hid (T.out.trans hb)
          refine ⟨hb, ?_⟩
          clear hb
          refine WT_yes 16 rfl (by kernel_rfl) (fun _ _ _ _ _ h => h) (by rfl) ?_; apply Exists.intro; refine ⟨fun w1 hb1 => ?_, ?_⟩; (focus ((skip; have hb1 := Lib.hid hb1; go_simp); (try (go_bits; try go_simp)); (try (rw [if_pos (by omega)]; try go_simp)); (first | done | (fail) | (with_reducible rfl) | exact rfl)))
          simp only [Act.put, List.setIfInBounds_toArray, List.set_cons_zero, List.set_cons_succ]
          refine WT_done (by kernel_rfl) ?_
          have hg2 : g < u4.heap.size := Nat.lt_of_lt_of_le hg T.out.size
          replace E2 := Lib.hid ((T.out.cell (p := ⟨g, go + (k + 1) * 2, none⟩) hg).trans E2.out)
          replace E3 := Lib.hid ((T.out.cell (p := ⟨g, go + (k + 1) * 2 + 1, none⟩) hg).trans E3.out)
          clear C0 E0 E1
          go_wp2_with fail
          refine wp_region_quiet_all (fun w' => Below (World.heap u4).size (u4) w') (by kernel_rfl) (by kernel_rfl) (Below.refl _ _).drew ?_
          refine WQ.out ?_
          repeat (first | (refine WQ_no (by rfl) ?_; (simp only [Act.put, List.setIfInBounds_toArray, List.set_cons_zero, List.set_cons_succ])) | (refine WQ_yes (by rfl) ?_; apply Exists.intro; refine ⟨fun w1 hb1 => ?_, ?_⟩; (focus (((obtain ⟨-, kn, -⟩ := KBN.out.to hb1; have e2 := (hb1.cell (p := ⟨g, go + (k + 1) * 2, none⟩) hg2).trans E2.out; have e3 := (hb1.cell (p := ⟨g, go + (k + 1) * 2 + 1, none⟩) hg2).trans E3.out); have hb1 := Lib.hid hb1; go_simp); (try (go_bits; try go_simp)); (try (rw [if_pos (by omega)]; try go_simp)); (first | done | (fail) | (with_reducible rfl) | exact rfl))); (simp only [Act.put, List.setIfInBounds_toArray, List.set_cons_zero, List.set_cons_succ])))
          refine WQ_nil ?_
          intro w1 hb1
          go_wp2_with fail
          go_roundw
          case rel => exact ⟨k + 1, by go_num, by omega, Lib.hid (bThen (bThen HR0.out T.out) hb1)⟩
          case measure => simp [intOf]; omega
        · unfold stepT
          go_wp2_with fail
          obtain ⟨u2, hwA⟩ : ∃ wA, u1.alloc (.cells #[.int .i64 0, .bool false] 46) = wA := ⟨_, rfl⟩
          rw [hwA]
          have hb : Below u1.heap.size u1 u2 := by subst hwA; exact bAlloc (bSelf _) _
          replace HR1 := Lib.hid (HR1.out.to hb)
          have KBN : Hid (Blk u2 u1.heap.size #[.int .i64 0, .bool false]) := by subst hwA; exact Blk.new _ _ _
          clear hwA
          have BNN : Hid (wr.heap.size ≤ u1.heap.size) := Lib.hid T.out.size
          obtain ⟨BN, hBN⟩ : ∃ N, u1.heap.size = N := ⟨_, rfl⟩
          have hbd := Lib.hid (hb.mono T.out.size)
          replace T := Lib.hid (bThen T.out hb)
          clear hb
          rw [hBN] at KBN BNN  ⊢
          clear hBN
          refine ⟨hbd.out, ?_⟩
          clear hbd
          refine WT_one 10 rfl (by kernel_rfl) ?_
          unfold stepT
          go_wp2_with fail
          refine (HNB.out _ _ _ HR1.out).mono ?_
          rintro e u3 ⟨rfl, hb⟩
          replace KBN := Lib.hid (KBN.out.to hb)
          replace HR1 := Lib.hid (HR1.out.to hb)
          have hbd := Lib.hid (hb.mono T.out.size)
          replace T := Lib.hid (bThen T.out hb)
          clear hb
          go_wp2_with fail
          refine ⟨hbd.out, ?_⟩
          clear hbd
          refine WT_yes 11 rfl (by kernel_rfl) (fun _ _ _ _ _ h => h) (by rfl) ?_; apply Exists.intro; refine ⟨fun w1 hb1 => ?_, ?_⟩; (focus ((skip; have hb1 := Lib.hid hb1; go_simp); (try (go_bits; try go_simp)); (try (rw [if_pos (by omega)]; try go_simp)); (first | done | (fail) | (with_reducible rfl) | exact rfl)))
          simp only [Act.put, List.setIfInBounds_toArray, List.set_cons_zero, List.set_cons_succ]
          refine WT_yes 12 rfl (by kernel_rfl) (fun _ _ _ _ _ h => h) (by rfl) ?_; apply Exists.intro; refine ⟨fun w1 hb1 => ?_, ?_⟩; (focus ((skip; have hb1 := Lib.hid hb1; go_simp); (try (go_bits; try go_simp)); (try (rw [if_pos (by omega)]; try go_simp)); (first | done | (fail) | (with_reducible rfl) | exact rfl)))
          simp only [Act.put, List.setIfInBounds_toArray, List.set_cons_zero, List.set_cons_succ]
          refine WT_yes 13 rfl (by kernel_rfl) (fun _ _ _ _ _ h => h) (by rfl) ?_; apply Exists.intro; refine ⟨fun w1 hb1 => ?_, ?_⟩; (focus ((skip; have hb1 := Lib.hid hb1; go_simp); (try (go_bits; try go_simp)); (try (rw [if_pos (by omega)]; try go_simp)); (first | done | (fail) | (with_reducible rfl) | exact rfl)))
          simp only [Act.put, List.setIfInBounds_toArray, List.set_cons_zero, List.set_cons_succ]
          refine WT_one 15 rfl (by kernel_rfl) ?_
          unfold stepT
          obtain ⟨-, kx, fx⟩ := KBN.out
          go_wp2_with fail
          clear kx fx
          obtain ⟨u4, hu⟩ : ∃ u, (u3.setCell ⟨BN, 0, none⟩ (.int .i64 n2)).setCell ⟨BN, 1, none⟩ (.bool d2) = u := ⟨_, rfl⟩
          have hb : Below wr.heap.size u3 u4 := by rw [← hu]; exact ((Below.refl _ _).setCell (p := ⟨BN, 0, none⟩) BNN.out _).setCell (p := ⟨BN, 1, none⟩) BNN.out _
          replace KBN := Lib.hid ((KBN.out.set 0 (.int .i64 n2)).set 1 (.bool d2))
          rw [hu] at KBN ⊢
          clear hu
          replace T := Lib.hid (T.out.trans hb)
          refine ⟨hb, ?_⟩
          clear hb
          refine WT_yes 16 rfl (by kernel_rfl) (fun _ _ _ _ _ h => h) (by rfl) ?_; apply Exists.intro; refine ⟨fun w1 hb1 => ?_, ?_⟩; (focus ((skip; have hb1 := Lib.hid hb1; go_simp); (try (go_bits; try go_simp)); (try (rw [if_pos (by omega)]; try go_simp)); (first | done | (fail) | (with_reducible rfl) | exact rfl)))
          simp only [Act.put, List.setIfInBounds_toArray, List.set_cons_zero, List.set_cons_succ]
          refine WT_done (by kernel_rfl) ?_
          have hg2 : g < u4.heap.size := Nat.lt_of_lt_of_le hg T.out.size
          replace E2 := Lib.hid ((T.out.cell (p := ⟨g, go + (k + 1) * 2, none⟩) hg).trans E2.out)
          replace E3 := Lib.hid ((T.out.cell (p := ⟨g, go + (k + 1) * 2 + 1, none⟩) hg).trans E3.out)
          clear C0 E0 E1
          go_wp2_with fail
          refine wp_region_quiet_all (fun w' => Below (World.heap u4).size (u4) w') (by kernel_rfl) (by kernel_rfl) (Below.refl _ _).drew ?_
          refine WQ.out ?_
          repeat (first | (refine WQ_no (by rfl) ?_; (simp only [Act.put, List.setIfInBounds_toArray, List.set_cons_zero, List.set_cons_succ])) | (refine WQ_yes (by rfl) ?_; apply Exists.intro; refine ⟨fun w1 hb1 => ?_, ?_⟩; (focus (((obtain ⟨-, kn, -⟩ := KBN.out.to hb1; have e2 := (hb1.cell (p := ⟨g, go + (k + 1) * 2, none⟩) hg2).trans E2.out; have e3 := (hb1.cell (p := ⟨g, go + (k + 1) * 2 + 1, none⟩) hg2).trans E3.out); have hb1 := Lib.hid hb1; go_simp); (try (go_bits; try go_simp)); (try (rw [if_pos (by omega)]; try go_simp)); (first | done | (fail) | (with_reducible rfl) | exact rfl))); (simp only [Act.put, List.setIfInBounds_toArray, List.set_cons_zero, List.set_cons_succ])))
          refine WQ_nil ?_
          intro w1 hb1
          go_wp2_with fail
          go_roundw
          case rel => exact ⟨k + 1, by go_num, by omega, Lib.hid (bThen (bThen HR0.out T.out) hb1)⟩
          case measure => simp [intOf]; omega
      · unfold stepT
        go_wp2_with fail
        obtain ⟨u1, hwA⟩ : ∃ wA, wd.alloc (.cells #[.int .i64 0, .bool false] 46) = wA := ⟨_, rfl⟩
        rw [hwA]
        have hb : Below wd.heap.size wd u1 := by subst hwA; exact bAlloc (bSelf _) _
        have KBN : Hid (Blk u1 wd.heap.size #[.int .i64 0, .bool false]) := by subst hwA; exact Blk.new _ _ _
        clear hwA
        have BNN : Hid (wr.heap.size ≤ wd.heap.size) := Lib.hid T.out.size
        obtain ⟨BN, hBN⟩ : ∃ N, wd.heap.size = N := ⟨_, rfl⟩
        have hbd := Lib.hid (hb.mono T.out.size)
        replace T := Lib.hid (bThen T.out hb)
        clear hb
        rw [hBN] at KBN BNN  ⊢
        clear hBN
        refine ⟨hbd.out, ?_⟩
        clear hbd
        refine WT_one 1 rfl (by kernel_rfl) ?_
        unfold stepT
        go_wp2_with fail
        refine (HCPY.out _ h10 (bThen HB.out T.out)).mono ?_
        rintro e u2 ⟨a1, c1, rfl, -, hr1, hb, -⟩
        replace KBN := Lib.hid (KBN.out.to hb)
        have HR1 := Lib.hid hr1
        clear hr1
        unfold plC
        rw [HM.out] at HR1 ⊢
        have hbd := Lib.hid (hb.mono T.out.size)
        replace T := Lib.hid (bThen T.out hb)
        clear hb
        go_wp2_with fail
        refine ⟨hbd.out, ?_⟩
        clear hbd
        refine WT_one 10 rfl (by kernel_rfl) ?_
        unfold stepT
        go_wp2_with fail
        refine (HNB.out _ _ _ HR1.out).mono ?_
        rintro e u3 ⟨rfl, hb⟩
        replace KBN := Lib.hid (KBN.out.to hb)
        replace HR1 := Lib.hid (HR1.out.to hb)
        have hbd := Lib.hid (hb.mono T.out.size)
        replace T := Lib.hid (bThen T.out hb)
        clear hb
        go_wp2_with fail
        refine ⟨hbd.out, ?_⟩
        clear hbd
        refine WT_yes 11 rfl (by kernel_rfl) (fun _ _ _ _ _ h => h) (by rfl) ?_; apply Exists.intro; refine ⟨fun w1 hb1 => ?_, ?_⟩; (focus ((skip; have hb1 := Lib.hid hb1; go_simp); (try (go_bits; try go_simp)); (try (rw [if_pos (by omega)]; try go_simp)); (first | done | (fail) | (with_reducible rfl) | exact rfl)))
        simp only [Act.put, List.setIfInBounds_toArray, List.set_cons_zero, List.set_cons_succ]
        refine WT_yes 12 rfl (by kernel_rfl) (fun _ _ _ _ _ h => h) (by rfl) ?_; apply Exists.intro; refine ⟨fun w1 hb1 => ?_, ?_⟩; (focus ((skip; have hb1 := Lib.hid hb1; go_simp); (try (go_bits; try go_simp)); (try (rw [if_pos (by omega)]; try go_simp)); (first | done | (fail) | (with_reducible rfl) | exact rfl)))
        simp only [Act.put, List.setIfInBounds_toArray, List.set_cons_zero, List.set_cons_succ]
        refine WT_yes 13 rfl (by kernel_rfl) (fun _ _ _ _ _ h => h) (by rfl) ?_; apply Exists.intro; refine ⟨fun w1 hb1 => ?_, ?_⟩; (focus ((skip; have hb1 := Lib.hid hb1; go_simp); (try (go_bits; try go_simp)); (try (rw [if_pos (by omega)]; try go_simp)); (first | done | (fail) | (with_reducible rfl) | exact rfl)))
        simp only [Act.put, List.setIfInBounds_toArray, List.set_cons_zero, List.set_cons_succ]
        refine WT_one 15 rfl (by kernel_rfl) ?_
        unfold stepT
        obtain ⟨-, kx, fx⟩ := KBN.out
        go_wp2_with fail
        clear kx fx
        obtain ⟨u4, hu⟩ : ∃ u, (u3.setCell ⟨BN, 0, none⟩ (.int .i64 n2)).setCell ⟨BN, 1, none⟩ (.bool d2) = u := ⟨_, rfl⟩
        have hb : Below wr.heap.size u3 u4 := by rw [← hu]; exact ((Below.refl _ _).setCell (p := ⟨BN, 0, none⟩) BNN.out _).setCell (p := ⟨BN, 1, none⟩) BNN.out _
        replace KBN := Lib.hid ((KBN.out.set 0 (.int .i64 n2)).set 1 (.bool d2))
        rw [hu] at KBN ⊢
        clear hu
        replace T := Lib.hid (T.out.trans hb)
        refine ⟨hb, ?_⟩
        clear hb
        refine WT_yes 16 rfl (by kernel_rfl) (fun _ _ _ _ _ h => h) (by rfl) ?_; apply Exists.intro; refine ⟨fun w1 hb1 => ?_, ?_⟩; (focus ((skip; have hb1 := Lib.hid hb1; go_simp); (try (go_bits; try go_simp)); (try (rw [if_pos (by omega)]; try go_simp)); (first | done | (fail) | (with_reducible rfl) | exact rfl)))
        simp only [Act.put, List.setIfInBounds_toArray, List.set_cons_zero, List.set_cons_succ]
        refine WT_done (by kernel_rfl) ?_
        have hg2 : g < u4.heap.size := Nat.lt_of_lt_of_le hg T.out.size
        replace E2 := Lib.hid ((T.out.cell (p := ⟨g, go + (k + 1) * 2, none⟩) hg).trans E2.out)
        replace E3 := Lib.hid ((T.out.cell (p := ⟨g, go + (k + 1) * 2 + 1, none⟩) hg).trans E3.out)
        clear C0 E0 E1
        go_wp2_with fail
        refine wp_region_quiet_all (fun w' => Below (World.heap u4).size (u4) w') (by kernel_rfl) (by kernel_rfl) (Below.refl _ _).drew ?_
        refine WQ.out ?_
        repeat (first | (refine WQ_no (by rfl) ?_; (simp only [Act.put, List.setIfInBounds_toArray, List.set_cons_zero, List.set_cons_succ])) | (refine WQ_yes (by rfl) ?_; apply Exists.intro; refine ⟨fun w1 hb1 => ?_, ?_⟩; (focus (((obtain ⟨-, kn, -⟩ := KBN.out.to hb1; have e2 := (hb1.cell (p := ⟨g, go + (k + 1) * 2, none⟩) hg2).trans E2.out; have e3 := (hb1.cell (p := ⟨g, go + (k + 1) * 2 + 1, none⟩) hg2).trans E3.out); have hb1 := Lib.hid hb1; go_simp); (try (go_bits; try go_simp)); (try (rw [if_pos (by omega)]; try go_simp)); (first | done | (fail) | (with_reducible rfl) | exact rfl))); (simp only [Act.put, List.setIfInBounds_toArray, List.set_cons_zero, List.set_cons_succ])))
        refine WQ_nil ?_
        intro w1 hb1
        go_wp2_with fail
        go_roundw
        case rel => exact ⟨k + 1, by go_num, by omega, Lib.hid (bThen (bThen HR0.out T.out) hb1)⟩
        case measure => simp [intOf]; omega
    · have hlt3 : (ro.length : Int) ≤ (k : Int) + 1 := by omega
      go_wp2_with fail
      all_goals
        first
        | (exfalso; omega)
        | (go_ret; exact ⟨rfl, bThen HB.out HR0.out⟩)

end Go.Proofs.YtjfedpblkejmkaaGreat

