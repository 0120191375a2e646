/-
  Texts of this claim, in their build order: OR14.
-/
import Derived.Test.YtjfedpblkejmkaaGreatVal46
import Derived.Test.YtjfedpblkejmkaaGreatVal18

/-
  The reference: CopyValve, DropErr, CheckValve.
-/
namespace Go.Proofs.YtjfedpblkejmkaaGreat
open Go.RowKit
attribute [local go_sem] Oper.semAt_some

theorem rtFl : RowTy Tryz.prog 79 90 3 24 (.agg #[.int .i64 0, .int .i64 0, .int .i64 0]) := by
  obtain ⟨i, h1, h2, h3, h4⟩ := info_parts (show (Tryz.prog.info? 90).map (fun i => (i.zero, i.size, i.bytes)) = some (some (.agg #[.int .i64 0, .int .i64 0, .int .i64 0]), 3, 24) by kernel_rfl)
  exact ⟨by kernel_rfl, ⟨i, h1, h2, h3, h4⟩, rfl, by omega, by omega⟩
def flR (l : List (Int × Int × Int)) (k j : Nat) : Value := flws l (k * 3 + j)
theorem recs_fl (l : List (Int × Int × Int)) : recs 3 (flR l) = flws l := funext fun i => by unfold recs flR; rw [Nat.div_add_mod' i 3]
theorem flws_one (l : List (Int × Int × Int)) (i : Nat) : (flws l i).oneCell' = true := rfl

set_option maxHeartbeats 800000 in
set_option maxRecDepth 100000 in
theorem rCopyValve_any (c : List (Int × Int × Int)) (a : Option Addr) (cap : Nat) (w : World) (hfew : c.length ≤ 100000) (hr : Reads w a (c.length * 3) (flws c)) :
    Calls Tryz.prog 45 #[.slice a c.length cap] w fun e w' => ∃ a' cap', e = .returned (.slice a' c.length cap') ∧ c.length ≤ cap' ∧ Reads w' a' (c.length * 3) (flws c) ∧ Below w.heap.size w w' ∧ ∀ p, a' = some p → w.heap.size ≤ p.block := by
  cases a with
  | none =>
    have h0 : c.length = 0 := by
      rcases hr with h | ⟨b, off, e, -⟩
      · omega
      · cases e
    rw [h0]
    clear hr
    go_enter Tryz.func45, Tryz.ntmps45
    go_wp2_with fail
    go_ret
    exact ⟨_, _, rfl, by omega, .inl rfl, bAlloc (bSelf w) _, fun p hp => by cases hp; exact Nat.le_refl _⟩
  | some ad =>
    have hr2 := hr.alloc (.cells #[] 90)
    rw [← recs_fl c] at hr2
    have HN := Lib.hid (Reads.newsR hr2)
    have HPO : Hid (∀ (u2 : World) (v : Value), u2.ownsRow w.heap.size 90 3 v c.length (rcells 3 (flR c) c.length) → ∃ a' c', v = .slice a' c.length c' ∧ c.length ≤ c' ∧ Reads u2 a' (c.length * 3) (flws c) ∧ ∀ q, a' = some q → w.heap.size ≤ q.block) := Lib.hid (fun u2 v h => Reads.of_row (f := flws c) h (fun i hi => by rw [rcells_get hi, recs_fl]))
    have HCL : Hid ((rcells 3 (flR c) c.length).length = c.length * 3) := Lib.hid (rcells_len _ _ _)
    have HON := Lib.hid (onesR (s := 3) (f := flR c) (n := c.length) (fun k j _ _ => flws_one c _))
    obtain ⟨n, hn⟩ : ∃ n, c.length = n := ⟨_, rfl⟩
    rw [hn] at HPO HCL HN HON hfew ⊢
    clear hr hr2 hn
    go_enter Tryz.func45, Tryz.ntmps45
    go_wp2_with (at_builtin; refine wpList_app w.heap.size rtFl rfl (.tmp 3) (.tmp 4) rfl (.slice (some ⟨w.heap.size, 0, none⟩) 0 0) 0 [] rfl (World.ownsRow_lit w #[] 0 (Nat.le_refl _) (by decide) rfl) ad n cap (rcells 3 (flR c) n) rfl HCL.out HN.out HON.out (by unfold maxLen; omega) (by omega) (by simp) ?_; intro v' w2 hown' hgrow _ hwhere; have HO := Lib.hid hown'; have HBB : Hid (Below w.heap.size w w2) := Lib.hid ((bAlloc (bSelf w) _).grown hgrow (by simp) (fun k e => by cases e; exact Nat.le_refl _)); clear hown' hgrow hwhere)
    go_ret
    have hrow := HO.out
    rw [Nat.zero_add, List.nil_append] at hrow
    obtain ⟨a', cap', rfl, hcp, hrd, hfr⟩ := HPO.out _ _ hrow
    exact ⟨a', cap', rfl, hcp, hrd, HBB.out, hfr⟩

theorem lst_vg {l : List (Int × Int × Int)} {k : Nat} (h : l.length = k + 1) : lstV l l.length = (vg l k).1 := by rw [h]; rfl
theorem drp_val {l : List (Int × Int × Int)} (h : (chVl l).2 = 0) (a b : Int) : drpE l a b = if wthn a 0 (lstV l l.length) = false then 2 else if wthn b 0 (lstV l l.length) = false then 2 else if b < a then 9 else 0 := by
  unfold drpE firstE
  rw [if_pos h]
  cases wthn a 0 (lstV l l.length)
  · rfl
  cases wthn b 0 (lstV l l.length)
  · rfl
  by_cases hb : b < a
  · rw [decide_eq_false (show ¬ a ≤ b by omega), if_pos hb]; rfl
  · rw [decide_eq_true (show a ≤ b by omega), if_neg hb]; rfl

set_option maxHeartbeats 1600000 in
set_option maxRecDepth 100000 in
theorem rDropErr_any (l : List (Int × Int × Int)) (a b : Int) (al : Option Addr) (cap : Nat) (w : World) (h0 : (chVl l).2 = 0) (hr : Reads w al (l.length * 3) (flws l)) :
    Calls Tryz.prog 49 #[.slice al l.length cap, .agg #[.int .i64 a, .int .i64 b]] w fun e w' => e = .returned (.int .i64 (drpE l a b)) ∧ Below w.heap.size w w' := by
  rw [drp_val h0]
  have hl := (chVl_ok h0).2
  obtain ⟨j, hj⟩ : ∃ j, l.length = j + 1 := ⟨l.length - 1, by omega⟩
  rw [lst_vg hj]
  obtain ⟨bk, off, rfl, hb, hc⟩ := hr.at (k := j * 3) (by omega)
  obtain ⟨x, hx⟩ : ∃ x, (vg l j).1 = x := ⟨_, rfl⟩
  have c0 := hc (j * 3) (by omega)
  rw [flws0, hx] at c0
  rw [hx, hj]
  have C0 : Hid ((w.alloc (.cells #[.int .i64 a, .int .i64 b] 25)).cell? ⟨bk, off + j * 3, none⟩ = some (.int .i64 x)) := Lib.hid (((bAlloc (bSelf w) _).cell (p := ⟨bk, off + j * 3, none⟩) hb).trans c0)
  obtain ⟨b1, hb1⟩ : ∃ t, wthn a 0 x = t := ⟨_, rfl⟩
  obtain ⟨b2, hb2⟩ : ∃ t, wthn b 0 x = t := ⟨_, rfl⟩
  have HB1 := Lib.hid hb1
  have HB2 := Lib.hid hb2
  rw [hb1, hb2]
  have hjj : ((j + 1 : Nat) : Int) - 1 = (j : Int) := by omega
  have hj2 : j ≤ 7 := by omega
  clear hb1 hb2 hc c0 hx hr hb hl h0
  cases b1
  · go_enter Tryz.func49, Tryz.ntmps49
    have c0 := C0.out
    go_wp2_with (go_at_call 42; refine (bWth_any _ _ _ _).mono ?_; rintro e w' ⟨rfl, rfl⟩; first | rw [HB1.out] | rw [HB2.out])
    go_ret
    exact ⟨rfl, bAlloc (bSelf w) _⟩
  cases b2
  · go_enter Tryz.func49, Tryz.ntmps49
    have c0 := C0.out
    go_wp2_with (go_at_call 42; refine (bWth_any _ _ _ _).mono ?_; rintro e w' ⟨rfl, rfl⟩; first | rw [HB1.out] | rw [HB2.out])
    go_ret
    exact ⟨rfl, bAlloc (bSelf w) _⟩
  by_cases hab : b < a
  · rw [if_neg (by decide), if_neg (by decide), if_pos hab]
    go_enter Tryz.func49, Tryz.ntmps49
    have c0 := C0.out
    go_wp2_with (go_at_call 42; refine (bWth_any _ _ _ _).mono ?_; rintro e w' ⟨rfl, rfl⟩; first | rw [HB1.out] | rw [HB2.out])
    go_ret
    exact ⟨rfl, bAlloc (bSelf w) _⟩
  · rw [if_neg (by decide), if_neg (by decide), if_neg hab]
    have hab2 : a ≤ b := by omega
    go_enter Tryz.func49, Tryz.ntmps49
    have c0 := C0.out
    go_wp2_with (go_at_call 42; refine (bWth_any _ _ _ _).mono ?_; rintro e w' ⟨rfl, rfl⟩; first | rw [HB1.out] | rw [HB2.out])
    go_ret
    exact ⟨rfl, bAlloc (bSelf w) _⟩

theorem vl_val (l : List (Int × Int × Int)) (k : Nat) : vlE l k = if wthn (vg l k).1 0 1000 = false then 2 else if wthn (vg l k).2.1 0 50 = false then 2 else if wthn (vg l k).2.2 0 50 = false then 2 else if (vg l k).2.2 < (vg l k).2.1 then 9 else if ordV l k = false then 9 else 0 := by
  unfold vlE firstE firstE
  cases wthn (vg l k).1 0 1000
  · rfl
  cases wthn (vg l k).2.1 0 50
  · rfl
  cases wthn (vg l k).2.2 0 50
  · rfl
  by_cases hb : (vg l k).2.2 < (vg l k).2.1
  · rw [decide_eq_false (show ¬ (vg l k).2.1 ≤ (vg l k).2.2 by omega), if_pos hb]; rfl
  · rw [decide_eq_true (show (vg l k).2.1 ≤ (vg l k).2.2 by omega), if_neg hb]
    cases ordV l k <;> rfl

set_option maxHeartbeats 6400000 in
set_option maxRecDepth 100000 in
theorem rCheckValve_any (l : List (Int × Int × Int)) (a : Option Addr) (cap : Nat) (w : World) (hlen : l.length ≤ 100000) (hr : Reads w a (l.length * 3) (flws l)) :
    Calls Tryz.prog 48 #[.slice a l.length cap] w fun e w' => e = .returned (.tuple #[.int .i64 (chVl l).1, .int .i64 (chVl l).2]) ∧ Below w.heap.size w w' := by
  have HR := Lib.hid hr
  have HCH : Hid (chVl l = if fewE l.length ≠ 0 then (0, fewE l.length) else eachR (vlE l) 0 l.length) := Lib.hid rfl
  have HFE := Lib.hid (fewE_val l.length)
  obtain ⟨⟨c1, c2⟩, hc⟩ : ∃ x, chVl l = x := ⟨_, rfl⟩
  rw [hc] at HCH ⊢
  obtain ⟨n, hn⟩ : ∃ n, l.length = n := ⟨_, rfl⟩
  rw [hn] at HR HCH HFE hlen ⊢
  dsimp only
  clear hr hc hn
  go_enter Tryz.func48, Tryz.ntmps48
  by_cases n2 : (n : Int) < 2
  · have hq : (c1, c2) = (0, 10) := by rw [HCH.out, HFE.out, if_pos n2]; rfl
    injection hq with h1 h2
    subst h1 h2
    clear HCH HFE
    go_wp2_with fail
    go_ret2
    exact ⟨rfl, bSelf w⟩
  by_cases n8 : 8 < (n : Int)
  · have hq : (c1, c2) = (0, 8) := by rw [HCH.out, HFE.out, if_neg n2, if_pos n8]; rfl
    injection hq with h1 h2
    subst h1 h2
    clear HCH HFE
    go_wp2_with fail
    go_ret2
    exact ⟨rfl, bSelf w⟩
  have hq : (c1, c2) = eachR (vlE l) 0 n := by rw [HCH.out, HFE.out, if_neg n2, if_neg n8]; rfl
  replace HCH := Lib.hid hq
  clear hq HFE
  go_wp2_with fail
  go_loopw [4] (fun s4 wr => ∃ k : Nat, k ≤ n ∧ s4 = .int .i64 k ∧ Hid (eachR (vlE l) 0 n = eachR (vlE l) k (n - k)) ∧ Hid (Below w.heap.size w wr)) (fun s4 _ => n - (intOf s4).toNat)
  case atStart => exact ⟨0, Nat.zero_le _, rfl, Lib.hid rfl, Lib.hid (bSelf w)⟩
  case round =>
    obtain ⟨k, hk, rfl, hee, hB⟩ := hrel
    by_cases hlt : k < n
    · have HBAD : Hid (∀ e, vlE l k = e → e ≠ 0 → (c1, c2) = ((k : Int), e)) := Lib.hid (fun e he hne => by
        have h1 := eachR_stop (err := vlE l) hlt (by rw [he]; exact hne)
        rw [HCH.out, hee.out, h1, he])
      have HGO : Hid (vlE l k = 0 → eachR (vlE l) 0 n = eachR (vlE l) (k + 1) (n - (k + 1))) := Lib.hid (fun h => hee.out.trans (eachR_step (err := vlE l) hlt h))
      have HVL := Lib.hid (vl_val l k)
      have HOV : Hid (ordV l k = if k = 0 then (vg l 0).1 == 0 else decide ((vg l (k - 1)).1 < (vg l k).1) && decide ((vg l (k - 1)).2.1 ≤ (vg l k).2.1) && decide ((vg l (k - 1)).2.2 ≤ (vg l k).2.2)) := Lib.hid rfl
      obtain ⟨b, off, rfl, hb, hc⟩ := (HR.out.to hB.out).at (k := k * 3) (by omega)
      obtain ⟨⟨v, q, h⟩, hv⟩ : ∃ v, vg l k = v := ⟨_, rfl⟩
      have e0 : wr.cell? ⟨b, off + k * 3, none⟩ = some (.int .i64 v) := by have := hc (k * 3) (by omega); rw [flws0, hv] at this; exact this
      have e1 : wr.cell? ⟨b, off + k * 3 + 1, none⟩ = some (.int .i64 q) := by have := hc (k * 3 + 1) (by omega); rw [flws1, hv] at this; exact this
      have e2 : wr.cell? ⟨b, off + k * 3 + 2, none⟩ = some (.int .i64 h) := by have := hc (k * 3 + 1 + 1) (by omega); rw [flws2, hv] at this; exact this
      have HV := Lib.hid hv
      rw [hv] at HVL HOV
      dsimp only at HVL HOV
      obtain ⟨ve, hve⟩ : ∃ e, vlE l k = e := ⟨_, rfl⟩
      rw [hve] at HBAD HGO HVL
      clear hve hv
      have E0 := Lib.hid e0
      have E1 := Lib.hid e1
      have E2 := Lib.hid e2
      obtain ⟨b0, hb0⟩ : ∃ t, wthn v 0 1000 = t := ⟨_, rfl⟩
      obtain ⟨b1, hb1⟩ : ∃ t, wthn q 0 50 = t := ⟨_, rfl⟩
      obtain ⟨b2, hb2⟩ : ∃ t, wthn h 0 50 = t := ⟨_, rfl⟩
      rw [hb0, hb1, hb2] at HVL
      have B0 := Lib.hid hb0
      have B1 := Lib.hid hb1
      have B2 := Lib.hid hb2
      clear hb0 hb1 hb2 hc
      cases b0
      · have hx : ve = 2 := by rw [HVL.out, if_pos rfl]
        have hq := HBAD.out _ hx (by decide)
        injection hq with q1 q2
        subst q1 q2
        clear HVL HOV HBAD HGO hx
        go_wp2_with (first | (go_at_call 42; refine (bWth_any _ _ _ _).mono ?_; rintro e w' ⟨rfl, rfl⟩; rw [B0.out]) | (go_at_call 33; refine (rFlowErr_any _ _).mono ?_; rintro e w' ⟨rfl, rfl⟩; fail))
        go_ret2
        exact ⟨rfl, hB.out⟩
      cases b1
      · have hx : ve = 2 := by rw [HVL.out, if_neg (by decide), if_pos rfl]
        have hq := HBAD.out _ hx (by decide)
        injection hq with q1 q2
        subst q1 q2
        clear HVL HOV HBAD HGO hx
        go_wp2_with (first | (go_at_call 42; refine (bWth_any _ _ _ _).mono ?_; rintro e w' ⟨rfl, rfl⟩; rw [B0.out]) | (go_at_call 33; refine (rFlowErr_any _ _).mono ?_; rintro e w' ⟨rfl, rfl⟩; rw [B1.out]; (first | rw [show unl true 2 = 0 from rfl] | rw [show unl false 2 = 2 from rfl])))
        go_ret2
        exact ⟨rfl, hB.out⟩
      cases b2
      · have hx : ve = 2 := by rw [HVL.out, if_neg (by decide), if_neg (by decide), if_pos rfl]
        have hq := HBAD.out _ hx (by decide)
        injection hq with q1 q2
        subst q1 q2
        clear HVL HOV HBAD HGO hx
        go_wp2_with (first | (go_at_call 42; refine (bWth_any _ _ _ _).mono ?_; rintro e w' ⟨rfl, rfl⟩; rw [B0.out]) | (go_at_call 33; refine (rFlowErr_any _ _).mono ?_; rintro e w' ⟨rfl, rfl⟩; (first | rw [B1.out] | rw [B2.out]); (first | rw [show unl true 2 = 0 from rfl] | rw [show unl false 2 = 2 from rfl])))
        go_ret2
        exact ⟨rfl, hB.out⟩
      by_cases hqh : h < q
      · have hx : ve = 9 := by rw [HVL.out, if_neg (by decide), if_neg (by decide), if_neg (by decide), if_pos hqh]
        have hq := HBAD.out _ hx (by decide)
        injection hq with q1 q2
        subst q1 q2
        clear HVL HOV HBAD HGO hx
        go_wp2_with (first | (go_at_call 42; refine (bWth_any _ _ _ _).mono ?_; rintro e w' ⟨rfl, rfl⟩; rw [B0.out]) | (go_at_call 33; refine (rFlowErr_any _ _).mono ?_; rintro e w' ⟨rfl, rfl⟩; (first | rw [B1.out] | rw [B2.out]); (first | rw [show unl true 2 = 0 from rfl] | rw [show unl false 2 = 2 from rfl])))
        refine wp_region_quiet_all (fun w' => Below (World.heap wr).size (wr) w') (by kernel_rfl) (by kernel_rfl) (Below.refl _ _).drew ?_
        refine WQ.out ?_
        repeat (first | (refine WQ_no (by rfl) ?_; (simp only [Act.put, List.setIfInBounds_toArray, List.set_cons_zero, List.set_cons_succ])) | (refine WQ_yes (by rfl) ?_; apply Exists.intro; refine ⟨fun w1 hb1 => ?_, ?_⟩; (focus (((have e0 := (hb1.cell (p := ⟨b, off + k * 3, none⟩) hb).trans E0.out; have e1 := (hb1.cell (p := ⟨b, off + k * 3 + 1, none⟩) hb).trans E1.out; have e2 := (hb1.cell (p := ⟨b, off + k * 3 + 2, none⟩) hb).trans E2.out); have hb1 := Lib.hid hb1; go_simp); (try (go_bits; try go_simp)); (try (rw [if_pos (by omega)]; try go_simp)); (first | done | (fail) | (with_reducible rfl) | exact rfl))); (simp only [Act.put, List.setIfInBounds_toArray, List.set_cons_zero, List.set_cons_succ])))
        refine WQ_nil ?_
        intro w1 hb1
        replace hB := Lib.hid (bThen hB.out hb1)
        go_wp2_with fail
        go_ret2
        exact ⟨rfl, hB.out⟩
      have hqh2 : q ≤ h := by omega
      by_cases hk0 : k = 0
      · subst hk0
        replace e0 : wr.cell? ⟨b, off, none⟩ = some (.int .i64 v) := by simpa using e0
        replace e1 : wr.cell? ⟨b, off + 1, none⟩ = some (.int .i64 q) := by simpa using e1
        replace e2 : wr.cell? ⟨b, off + 2, none⟩ = some (.int .i64 h) := by simpa using e2
        replace E0 := Lib.hid e0
        replace E1 := Lib.hid e1
        replace E2 := Lib.hid e2
        have hov := HOV.out
        rw [if_pos rfl, HV.out] at hov
        by_cases hv0 : v = 0
        · have ho : ordV l 0 = true := by rw [hov]; simpa using hv0
          subst hv0
          have hx : ve = 0 := by rw [HVL.out, if_neg (by decide), if_neg (by decide), if_neg (by decide), if_neg hqh, ho, if_neg (by decide)]
          have HG := Lib.hid (HGO.out hx)
          clear HVL HOV HBAD HGO hx
          go_wp2_with (first | (go_at_call 42; refine (bWth_any _ _ _ _).mono ?_; rintro e w' ⟨rfl, rfl⟩; rw [B0.out]) | (go_at_call 33; refine (rFlowErr_any _ _).mono ?_; rintro e w' ⟨rfl, rfl⟩; (first | rw [B1.out] | rw [B2.out]); (first | rw [show unl true 2 = 0 from rfl] | rw [show unl false 2 = 2 from rfl])))
          refine wp_region_quiet_all (fun w' => Below (World.heap wr).size (wr) w') (by kernel_rfl) (by kernel_rfl) (Below.refl _ _).drew ?_
          refine WQ.out ?_
          repeat (first | (refine WQ_no (by rfl) ?_; (simp only [Act.put, List.setIfInBounds_toArray, List.set_cons_zero, List.set_cons_succ])) | (refine WQ_yes (by rfl) ?_; apply Exists.intro; refine ⟨fun w1 hb1 => ?_, ?_⟩; (focus (((have z0 : (h < q) = False := eq_false (by omega); have e0 := (hb1.cell (p := ⟨b, off, none⟩) hb).trans E0.out; have e1 := (hb1.cell (p := ⟨b, off + 1, none⟩) hb).trans E1.out; have e2 := (hb1.cell (p := ⟨b, off + 2, none⟩) hb).trans E2.out); have hb1 := Lib.hid hb1; go_simp); (try (go_bits; try go_simp)); (try (rw [if_pos (by omega)]; try go_simp)); (first | done | (fail) | (with_reducible rfl) | exact rfl))); (simp only [Act.put, List.setIfInBounds_toArray, List.set_cons_zero, List.set_cons_succ])))
          refine WQ_nil ?_
          intro w1 hb1
          replace hB := Lib.hid (bThen hB.out hb1)
          go_wp2_with fail
          go_roundw
          case rel => exact ⟨1, by omega, by go_num, HG, hB⟩
          case measure => simp [intOf]; omega
        · have ho : ordV l 0 = false := by rw [hov]; simpa using hv0
          have hx : ve = 9 := by rw [HVL.out, if_neg (by decide), if_neg (by decide), if_neg (by decide), if_neg hqh, ho, if_pos rfl]
          have hq := HBAD.out _ hx (by decide)
          injection hq with q1 q2
          subst q1 q2
          clear HVL HOV HBAD HGO hx
          go_wp2_with (first | (go_at_call 42; refine (bWth_any _ _ _ _).mono ?_; rintro e w' ⟨rfl, rfl⟩; rw [B0.out]) | (go_at_call 33; refine (rFlowErr_any _ _).mono ?_; rintro e w' ⟨rfl, rfl⟩; (first | rw [B1.out] | rw [B2.out]); (first | rw [show unl true 2 = 0 from rfl] | rw [show unl false 2 = 2 from rfl])))
          refine wp_region_quiet_all (fun w' => Below (World.heap wr).size (wr) w') (by kernel_rfl) (by kernel_rfl) (Below.refl _ _).drew ?_
          refine WQ.out ?_
          repeat (first | (refine WQ_no (by rfl) ?_; (simp only [Act.put, List.setIfInBounds_toArray, List.set_cons_zero, List.set_cons_succ])) | (refine WQ_yes (by rfl) ?_; apply Exists.intro; refine ⟨fun w1 hb1 => ?_, ?_⟩; (focus (((have z0 : (h < q) = False := eq_false (by omega); have z1 : (v != 0) = true := (by simpa using hv0); have e0 := (hb1.cell (p := ⟨b, off, none⟩) hb).trans E0.out; have e1 := (hb1.cell (p := ⟨b, off + 1, none⟩) hb).trans E1.out; have e2 := (hb1.cell (p := ⟨b, off + 2, none⟩) hb).trans E2.out); have hb1 := Lib.hid hb1; go_simp); (try (go_bits; try go_simp)); (try (rw [if_pos (by omega)]; try go_simp)); (first | done | (fail) | (with_reducible rfl) | exact rfl))); (simp only [Act.put, List.setIfInBounds_toArray, List.set_cons_zero, List.set_cons_succ])))
          refine WQ_nil ?_
          intro w1 hb1
          replace hB := Lib.hid (bThen hB.out hb1)
          go_wp2_with fail
          go_ret2
          exact ⟨rfl, hB.out⟩
      · obtain ⟨j, hj⟩ : ∃ j, k - 1 = j := ⟨_, rfl⟩
        have hov := HOV.out
        rw [if_neg hk0, hj] at hov
        obtain ⟨⟨v', q', h'⟩, hv'⟩ : ∃ v, vg l j = v := ⟨_, rfl⟩
        obtain ⟨b', off', e', hb', hc⟩ := (HR.out.to hB.out).at (k := j * 3) (by omega)
        cases e'
        have d0 : wr.cell? ⟨b, off + j * 3, none⟩ = some (.int .i64 v') := by have := hc (j * 3) (by omega); rw [flws0, hv'] at this; exact this
        have d1 : wr.cell? ⟨b, off + j * 3 + 1, none⟩ = some (.int .i64 q') := by have := hc (j * 3 + 1) (by omega); rw [flws1, hv'] at this; exact this
        have d2 : wr.cell? ⟨b, off + j * 3 + 2, none⟩ = some (.int .i64 h') := by have := hc (j * 3 + 1 + 1) (by omega); rw [flws2, hv'] at this; exact this
        rw [hv'] at hov
        dsimp only at hov
        have D0 := Lib.hid d0
        have D1 := Lib.hid d1
        have D2 := Lib.hid d2
        clear d0 d1 d2
        have hkj : (k : Int) - 1 = (j : Int) := by omega
        have hkn : (k : Int) < (n : Int) := by omega
        have hjn : (j : Int) < (n : Int) := by omega
        have hkp : (0 : Int) < (k : Int) := by omega
        have HOVV := Lib.hid hov
        clear hc hv' hov hj
        by_cases o0 : v ≤ v'
        · have ho : ordV l k = false := by rw [HOVV.out, decide_eq_false (show ¬ v' < v by omega)]; rfl
          have hx : ve = 9 := by rw [HVL.out, if_neg (by decide), if_neg (by decide), if_neg (by decide), if_neg hqh, ho, if_pos rfl]
          have hq := HBAD.out _ hx (by decide)
          injection hq with q1 q2
          subst q1 q2
          clear HVL HOV HBAD HGO hx
          go_wp2_with (first | (go_at_call 42; refine (bWth_any _ _ _ _).mono ?_; rintro e w' ⟨rfl, rfl⟩; rw [B0.out]) | (go_at_call 33; refine (rFlowErr_any _ _).mono ?_; rintro e w' ⟨rfl, rfl⟩; (first | rw [B1.out] | rw [B2.out]); (first | rw [show unl true 2 = 0 from rfl] | rw [show unl false 2 = 2 from rfl])))
          refine wp_region_quiet_all (fun w' => Below (World.heap wr).size (wr) w') (by kernel_rfl) (by kernel_rfl) (Below.refl _ _).drew ?_
          refine WQ.out ?_
          repeat (first | (refine WQ_no (by rfl) ?_; (simp only [Act.put, List.setIfInBounds_toArray, List.set_cons_zero, List.set_cons_succ])) | (refine WQ_yes (by rfl) ?_; apply Exists.intro; refine ⟨fun w1 hb1 => ?_, ?_⟩; (focus (((have z0 : (h < q) = False := eq_false (by omega); have z1 : ((k : Int) == 0) = false := (by rw [beq_eq_false_iff_ne]; omega); have y1 : ((k : Int) = 0) = False := eq_false (by omega); have u1 : ((0 : Int) < (k : Int)) = True := eq_true (by omega); have x1 : (0 < k) = True := eq_true (by omega); have e0 := (hb1.cell (p := ⟨b, off + k * 3, none⟩) hb).trans E0.out; have e1 := (hb1.cell (p := ⟨b, off + k * 3 + 1, none⟩) hb).trans E1.out; have e2 := (hb1.cell (p := ⟨b, off + k * 3 + 2, none⟩) hb).trans E2.out; have d0 := (hb1.cell (p := ⟨b, off + j * 3, none⟩) hb).trans D0.out; have d1 := (hb1.cell (p := ⟨b, off + j * 3 + 1, none⟩) hb).trans D1.out; have d2 := (hb1.cell (p := ⟨b, off + j * 3 + 2, none⟩) hb).trans D2.out); have hb1 := Lib.hid hb1; go_simp); (try (go_bits; try go_simp)); (try (rw [if_pos (by omega)]; try go_simp)); (first | done | (fail) | (with_reducible rfl) | exact rfl))); (simp only [Act.put, List.setIfInBounds_toArray, List.set_cons_zero, List.set_cons_succ])))
          refine WQ_nil ?_
          intro w1 hb1
          replace hB := Lib.hid (bThen hB.out hb1)
          go_wp2_with fail
          go_ret2
          exact ⟨rfl, hB.out⟩
        have o0' : v' < v := by omega
        by_cases o1 : q < q'
        · have ho : ordV l k = false := by rw [HOVV.out, decide_eq_false (show ¬ q' ≤ q by omega), Bool.and_false]; rfl
          have hx : ve = 9 := by rw [HVL.out, if_neg (by decide), if_neg (by decide), if_neg (by decide), if_neg hqh, ho, if_pos rfl]
          have hq := HBAD.out _ hx (by decide)
          injection hq with q1 q2
          subst q1 q2
          clear HVL HOV HBAD HGO hx
          go_wp2_with (first | (go_at_call 42; refine (bWth_any _ _ _ _).mono ?_; rintro e w' ⟨rfl, rfl⟩; rw [B0.out]) | (go_at_call 33; refine (rFlowErr_any _ _).mono ?_; rintro e w' ⟨rfl, rfl⟩; (first | rw [B1.out] | rw [B2.out]); (first | rw [show unl true 2 = 0 from rfl] | rw [show unl false 2 = 2 from rfl])))
          refine wp_region_quiet_all (fun w' => Below (World.heap wr).size (wr) w') (by kernel_rfl) (by kernel_rfl) (Below.refl _ _).drew ?_
          refine WQ.out ?_
          repeat (first | (refine WQ_no (by rfl) ?_; (simp only [Act.put, List.setIfInBounds_toArray, List.set_cons_zero, List.set_cons_succ])) | (refine WQ_yes (by rfl) ?_; apply Exists.intro; refine ⟨fun w1 hb1 => ?_, ?_⟩; (focus (((have z0 : (h < q) = False := eq_false (by omega); have z1 : ((k : Int) == 0) = false := (by rw [beq_eq_false_iff_ne]; omega); have y1 : ((k : Int) = 0) = False := eq_false (by omega); have u1 : ((0 : Int) < (k : Int)) = True := eq_true (by omega); have x1 : (0 < k) = True := eq_true (by omega); have z2 : (v ≤ v') = False := eq_false (by omega); have e0 := (hb1.cell (p := ⟨b, off + k * 3, none⟩) hb).trans E0.out; have e1 := (hb1.cell (p := ⟨b, off + k * 3 + 1, none⟩) hb).trans E1.out; have e2 := (hb1.cell (p := ⟨b, off + k * 3 + 2, none⟩) hb).trans E2.out; have d0 := (hb1.cell (p := ⟨b, off + j * 3, none⟩) hb).trans D0.out; have d1 := (hb1.cell (p := ⟨b, off + j * 3 + 1, none⟩) hb).trans D1.out; have d2 := (hb1.cell (p := ⟨b, off + j * 3 + 2, none⟩) hb).trans D2.out); have hb1 := Lib.hid hb1; go_simp); (try (go_bits; try go_simp)); (try (rw [if_pos (by omega)]; try go_simp)); (first | done | (fail) | (with_reducible rfl) | exact rfl))); (simp only [Act.put, List.setIfInBounds_toArray, List.set_cons_zero, List.set_cons_succ])))
          refine WQ_nil ?_
          intro w1 hb1
          replace hB := Lib.hid (bThen hB.out hb1)
          go_wp2_with fail
          go_ret2
          exact ⟨rfl, hB.out⟩
        have o1' : q' ≤ q := by omega
        by_cases o2 : h < h'
        · have ho : ordV l k = false := by rw [HOVV.out, decide_eq_false (show ¬ h' ≤ h by omega), Bool.and_false]
          have hx : ve = 9 := by rw [HVL.out, if_neg (by decide), if_neg (by decide), if_neg (by decide), if_neg hqh, ho, if_pos rfl]
          have hq := HBAD.out _ hx (by decide)
          injection hq with q1 q2
          subst q1 q2
          clear HVL HOV HBAD HGO hx
          go_wp2_with (first | (go_at_call 42; refine (bWth_any _ _ _ _).mono ?_; rintro e w' ⟨rfl, rfl⟩; rw [B0.out]) | (go_at_call 33; refine (rFlowErr_any _ _).mono ?_; rintro e w' ⟨rfl, rfl⟩; (first | rw [B1.out] | rw [B2.out]); (first | rw [show unl true 2 = 0 from rfl] | rw [show unl false 2 = 2 from rfl])))
          refine wp_region_quiet_all (fun w' => Below (World.heap wr).size (wr) w') (by kernel_rfl) (by kernel_rfl) (Below.refl _ _).drew ?_
          refine WQ.out ?_
          repeat (first | (refine WQ_no (by rfl) ?_; (simp only [Act.put, List.setIfInBounds_toArray, List.set_cons_zero, List.set_cons_succ])) | (refine WQ_yes (by rfl) ?_; apply Exists.intro; refine ⟨fun w1 hb1 => ?_, ?_⟩; (focus (((have z0 : (h < q) = False := eq_false (by omega); have z1 : ((k : Int) == 0) = false := (by rw [beq_eq_false_iff_ne]; omega); have y1 : ((k : Int) = 0) = False := eq_false (by omega); have u1 : ((0 : Int) < (k : Int)) = True := eq_true (by omega); have x1 : (0 < k) = True := eq_true (by omega); have z2 : (v ≤ v') = False := eq_false (by omega); have z3 : (q < q') = False := eq_false (by omega); have e0 := (hb1.cell (p := ⟨b, off + k * 3, none⟩) hb).trans E0.out; have e1 := (hb1.cell (p := ⟨b, off + k * 3 + 1, none⟩) hb).trans E1.out; have e2 := (hb1.cell (p := ⟨b, off + k * 3 + 2, none⟩) hb).trans E2.out; have d0 := (hb1.cell (p := ⟨b, off + j * 3, none⟩) hb).trans D0.out; have d1 := (hb1.cell (p := ⟨b, off + j * 3 + 1, none⟩) hb).trans D1.out; have d2 := (hb1.cell (p := ⟨b, off + j * 3 + 2, none⟩) hb).trans D2.out); have hb1 := Lib.hid hb1; go_simp); (try (go_bits; try go_simp)); (try (rw [if_pos (by omega)]; try go_simp)); (first | done | (fail) | (with_reducible rfl) | exact rfl))); (simp only [Act.put, List.setIfInBounds_toArray, List.set_cons_zero, List.set_cons_succ])))
          refine WQ_nil ?_
          intro w1 hb1
          replace hB := Lib.hid (bThen hB.out hb1)
          go_wp2_with fail
          go_ret2
          exact ⟨rfl, hB.out⟩
        have o2' : h' ≤ h := by omega
        have ho : ordV l k = true := by rw [HOVV.out, decide_eq_true o0', decide_eq_true o1', decide_eq_true o2']; rfl
        have hx : ve = 0 := by rw [HVL.out, if_neg (by decide), if_neg (by decide), if_neg (by decide), if_neg hqh, ho, if_neg (by decide)]
        have HG := Lib.hid (HGO.out hx)
        clear HVL HOV HBAD HGO hx
        go_wp2_with (first | (go_at_call 42; refine (bWth_any _ _ _ _).mono ?_; rintro e w' ⟨rfl, rfl⟩; rw [B0.out]) | (go_at_call 33; refine (rFlowErr_any _ _).mono ?_; rintro e w' ⟨rfl, rfl⟩; (first | rw [B1.out] | rw [B2.out]); (first | rw [show unl true 2 = 0 from rfl] | rw [show unl false 2 = 2 from rfl])))
        refine wp_region_quiet_all (fun w' => Below (World.heap wr).size (wr) w') (by kernel_rfl) (by kernel_rfl) (Below.refl _ _).drew ?_
        refine WQ.out ?_
        repeat (first | (refine WQ_no (by rfl) ?_; (simp only [Act.put, List.setIfInBounds_toArray, List.set_cons_zero, List.set_cons_succ])) | (refine WQ_yes (by rfl) ?_; apply Exists.intro; refine ⟨fun w1 hb1 => ?_, ?_⟩; (focus (((have z0 : (h < q) = False := eq_false (by omega); have z1 : ((k : Int) == 0) = false := (by rw [beq_eq_false_iff_ne]; omega); have y1 : ((k : Int) = 0) = False := eq_false (by omega); have u1 : ((0 : Int) < (k : Int)) = True := eq_true (by omega); have x1 : (0 < k) = True := eq_true (by omega); have z2 : (v ≤ v') = False := eq_false (by omega); have z3 : (q < q') = False := eq_false (by omega); have z4 : (h < h') = False := eq_false (by omega); have e0 := (hb1.cell (p := ⟨b, off + k * 3, none⟩) hb).trans E0.out; have e1 := (hb1.cell (p := ⟨b, off + k * 3 + 1, none⟩) hb).trans E1.out; have e2 := (hb1.cell (p := ⟨b, off + k * 3 + 2, none⟩) hb).trans E2.out; have d0 := (hb1.cell (p := ⟨b, off + j * 3, none⟩) hb).trans D0.out; have d1 := (hb1.cell (p := ⟨b, off + j * 3 + 1, none⟩) hb).trans D1.out; have d2 := (hb1.cell (p := ⟨b, off + j * 3 + 2, none⟩) hb).trans D2.out); have hb1 := Lib.hid hb1; go_simp); (try (go_bits; try go_simp)); (try (rw [if_pos (by omega)]; try go_simp)); (first | done | (fail) | (with_reducible rfl) | exact rfl))); (simp only [Act.put, List.setIfInBounds_toArray, List.set_cons_zero, List.set_cons_succ])))
        refine WQ_nil ?_
        intro w1 hb1
        replace hB := Lib.hid (bThen hB.out hb1)
        go_wp2_with fail
        go_roundw
        case rel => exact ⟨k + 1, by omega, by go_num, HG, hB⟩
        case measure => simp [intOf]; omega
    · obtain rfl : n = k := by omega
      have hq : (c1, c2) = (0, 0) := by rw [HCH.out, hee.out, Nat.sub_self]; rfl
      injection hq with q1 q2
      subst q1 q2
      go_wp2_with fail
      go_ret2
      exact ⟨rfl, hB.out⟩

end Go.Proofs.YtjfedpblkejmkaaGreat

