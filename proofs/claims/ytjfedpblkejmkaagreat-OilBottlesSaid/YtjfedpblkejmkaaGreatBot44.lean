/-
  Texts of this claim, in their build order: OL4 OR10 OR11 OR12 OP18.
-/
import Derived.Test.YtjfedpblkejmkaaGreatBot39
import Derived.Test.YtjfedpblkejmkaaGreatBot43
import Derived.Test.YtjfedpblkejmkaaGreatBot23
import Derived.Test.YtjfedpblkejmkaaGreatBot26
import Derived.Test.YtjfedpblkejmkaaGreatBot24
import Derived.Test.YtjfedpblkejmkaaGreatBot19
import Derived.Test.YtjfedpblkejmkaaGreatBot0

namespace Go.Proofs.YtjfedpblkejmkaaGreat
section
open Go.RowKit
attribute [local go_sem] Oper.semAt_some

theorem lFew_any (p : Plt) (a : Option Addr) (cap : Nat) (w : World) :
    Calls Tryz.prog 23 #[.agg (plC p a cap)] w fun e w' => e = .returned (.bool (decide ((p.pts.length : Int) ≤ 10))) ∧ Below w.heap.size w w' := by
  obtain ⟨l, pump, on, off⟩ := p
  unfold plC
  dsimp only
  obtain ⟨n, hn⟩ : ∃ n, l.length = n := ⟨_, rfl⟩
  rw [hn]
  clear hn
  go_enter Tryz.func23, Tryz.ntmps23
  go_wp2_with fail
  go_ret
  exact ⟨rfl, bAlloc (bSelf w) _⟩
end
section
set_option maxRecDepth 100000
set_option maxHeartbeats 1600000
open Go.RowKit
attribute [local go_sem] Oper.semAt_some

theorem rgE_val (lo hi : Int) : rgE (lo, hi) = if wthn lo 0 50 = false then 2 else if wthn hi 0 50 = false then 2 else if hi < lo then 9 else 0 := by
  unfold rgE
  dsimp only
  by_cases h : hi < lo
  · rw [if_pos h, decide_eq_false (show ¬ lo ≤ hi by omega)]
    cases wthn lo 0 50 <;> cases wthn hi 0 50 <;> rfl
  · rw [if_neg h, decide_eq_true (show lo ≤ hi by omega)]
    cases wthn lo 0 50 <;> cases wthn hi 0 50 <;> rfl

theorem rRangeErr_any (lo hi : Int) (w : World) :
    Calls Tryz.prog 53 #[.agg #[.int .i64 lo, .int .i64 hi]] w fun e w' => e = .returned (.int .i64 (rgE (lo, hi))) ∧ Below w.heap.size w w' := by
  have H1 := zH (fun W => rFlowErr_any lo W)
  have H2 := zH (fun W => rFlowErr_any hi W)
  have HV := zH (rgE_val lo hi)
  obtain ⟨r, hr⟩ : ∃ r, rgE (lo, hi) = r := ⟨_, rfl⟩
  rw [hr] at HV ⊢
  obtain ⟨b1, hb1⟩ : ∃ b, wthn lo 0 50 = b := ⟨_, rfl⟩
  obtain ⟨b2, hb2⟩ : ∃ b, wthn hi 0 50 = b := ⟨_, rfl⟩
  rw [hb1] at H1 HV
  rw [hb2] at H2 HV
  clear hr hb1 hb2
  cases b1
  · obtain rfl : r = 2 := HV.out
    clear HV
    go_enter Tryz.func53, Tryz.ntmps53
    go_wp2_with (go_at_call 33; refine (H1.out _).mono ?_; rintro e w' ⟨rfl, rfl⟩; rw [show unl false 2 = 2 from rfl])
    go_ret
    exact ⟨rfl, bAlloc (bSelf w) _⟩
  · cases b2
    · obtain rfl : r = 2 := HV.out
      clear HV
      go_enter Tryz.func53, Tryz.ntmps53
      go_wp2_with (go_at_call 33; first | (refine (H1.out _).mono ?_; rintro e w' ⟨rfl, rfl⟩; rw [show unl true 2 = 0 from rfl]) | (refine (H2.out _).mono ?_; rintro e w' ⟨rfl, rfl⟩; rw [show unl false 2 = 2 from rfl]))
      go_ret
      exact ⟨rfl, bAlloc (bSelf w) _⟩
    · by_cases h : hi < lo
      · obtain rfl : r = 9 := by rw [HV.out, if_neg (by decide), if_neg (by decide), if_pos h]
        clear HV
        go_enter Tryz.func53, Tryz.ntmps53
        go_wp2_with (go_at_call 33; first | (refine (H1.out _).mono ?_; rintro e w' ⟨rfl, rfl⟩; rw [show unl true 2 = 0 from rfl]) | (refine (H2.out _).mono ?_; rintro e w' ⟨rfl, rfl⟩; rw [show unl true 2 = 0 from rfl]))
        go_ret
        exact ⟨rfl, bAlloc (bSelf w) _⟩
      · obtain rfl : r = 0 := by rw [HV.out, if_neg (by decide), if_neg (by decide), if_neg h]
        clear HV
        go_enter Tryz.func53, Tryz.ntmps53
        go_wp2_with (go_at_call 33; first | (refine (H1.out _).mono ?_; rintro e w' ⟨rfl, rfl⟩; rw [show unl true 2 = 0 from rfl]) | (refine (H2.out _).mono ?_; rintro e w' ⟨rfl, rfl⟩; rw [show unl true 2 = 0 from rfl]))
        go_ret
        exact ⟨rfl, bAlloc (bSelf w) _⟩

theorem rCheckClass_any (c : List (Int × Int)) (a : Option Addr) (cap : Nat) (w : World) (hr : Reads w a (c.length * 2) (fracs c)) :
    Calls Tryz.prog 71 #[.slice a c.length cap] w fun e w' => e = .returned (.tuple #[.int .i64 (chCl c).1, .int .i64 (chCl c).2]) ∧ Below w.heap.size w w' := by
  have HR := zH hr
  have HRG := zH (fun lo hi W => rRangeErr_any lo hi W)
  have HCH : Hid (chCl c = if 20 < c.length then (0, 8) else eachR (fun k => rgE (fg c k)) 0 c.length) := zH rfl
  obtain ⟨⟨c1, c2⟩, hc⟩ : ∃ x, chCl c = x := ⟨_, rfl⟩
  rw [hc] at HCH ⊢
  obtain ⟨n, hn⟩ : ∃ n, c.length = n := ⟨_, rfl⟩
  rw [hn] at HR HCH ⊢
  dsimp only
  clear hr hc hn
  by_cases h20 : 20 < n
  · have hq := HCH.out
    rw [if_pos h20] at hq
    injection hq with h1 h2
    subst h1 h2
    clear HCH
    go_enter Tryz.func71, Tryz.ntmps71
    go_wp2_with fail
    go_ret2
    exact ⟨rfl, bSelf w⟩
  · have hq := HCH.out
    rw [if_neg h20] at hq
    replace HCH := zH hq
    clear hq
    go_enter Tryz.func71, Tryz.ntmps71
    go_wp2_with fail
    go_loopw [4, 5] (fun s4 _ wr => ∃ k : Nat, k ≤ n ∧ s4 = .int .i64 k ∧ Hid (eachR (fun k => rgE (fg c k)) 0 n = eachR (fun k => rgE (fg c k)) k (n - k)) ∧ Hid (Below w.heap.size w wr)) (fun s4 _ _ => n - (intOf s4).toNat)
    case atStart => exact ⟨0, Nat.zero_le _, rfl, zH rfl, zH (bSelf w)⟩
    case round =>
      obtain ⟨k, hk, rfl, hee, hB⟩ := hrel
      by_cases hlt : k < n
      · have HBAD : Hid (∀ e, rgE (fg c k) = e → e ≠ 0 → (c1, c2) = ((k : Int), e)) := zH (fun e he hne => by
          have h1 := eachR_stop (err := fun k => rgE (fg c k)) hlt (by rw [he]; exact hne)
          rw [HCH.out, hee.out, h1, he])
        have HGO : Hid (rgE (fg c k) = 0 → eachR (fun k => rgE (fg c k)) 0 n = eachR (fun k => rgE (fg c k)) (k + 1) (n - (k + 1))) := zH (fun h => hee.out.trans (eachR_step (err := fun k => rgE (fg c k)) hlt h))
        obtain ⟨b, off, rfl, hb, hc⟩ := (HR.out.to hB.out).at (k := k * 2) (by omega)
        obtain ⟨⟨v, q⟩, hv⟩ : ∃ v, fg c k = v := ⟨_, rfl⟩
        have h0 : wr.cell? ⟨b, off + k * 2, none⟩ = some (.int .i64 v) := by have := hc (k * 2) (by omega); rw [fracs0, hv] at this; exact this
        have h1 : wr.cell? ⟨b, off + k * 2 + 1, none⟩ = some (.int .i64 q) := by have := hc (k * 2 + 1) (by omega); rw [fracs1, hv] at this; exact this
        rw [hv] at HBAD HGO
        clear hc hv
        obtain ⟨e0, he0⟩ : ∃ e, rgE (v, q) = e := ⟨_, rfl⟩
        have HRK := zH (fun W => HRG.out v q W)
        rw [he0] at HBAD HGO HRK
        clear he0
        by_cases hz : e0 = 0
        · subst hz
          go_wp2_with (go_at_call 53; refine (HRK.out _).mono ?_; rintro e w' ⟨rfl, hb5⟩; have HB5 := zH hb5; clear hb5)
          go_roundw
          case rel => exact ⟨k + 1, by omega, by go_num, zH (HGO.out (by first | trivial | rfl)), zH (bThen hB.out HB5.out)⟩
          case measure => simp [intOf]; omega
        · have hq := HBAD.out e0 rfl hz
          injection hq with q1 q2
          subst q1 q2
          have hz' : (c2 != 0) = true := by simpa using hz
          go_wp2_with (go_at_call 53; refine (HRK.out _).mono ?_; rintro e w' ⟨rfl, hb5⟩; have HB5 := zH hb5; clear hb5)
          go_ret2
          exact ⟨rfl, bThen hB.out HB5.out⟩
      · obtain rfl : n = k := by omega
        have hq : (c1, c2) = (0, 0) := by rw [HCH.out, hee.out, Nat.sub_self]; rfl
        injection hq with q1 q2
        subst q1 q2
        go_wp2_with fail
        go_ret2
        exact ⟨rfl, hB.out⟩

theorem rClassErr_any (c : List (Int × Int)) (a : Option Addr) (cap : Nat) (w : World) (hr : Reads w a (c.length * 2) (fracs c)) :
    Calls Tryz.prog 81 #[.slice a c.length cap] w fun e w' => e = .returned (.int .i64 (chCl c).2) ∧ Below w.heap.size w w' := by
  have HC := zH (rCheckClass_any c a cap w hr)
  obtain ⟨⟨c1, c2⟩, hc⟩ : ∃ x, chCl c = x := ⟨_, rfl⟩
  rw [hc] at HC ⊢
  obtain ⟨n, hn⟩ : ∃ n, c.length = n := ⟨_, rfl⟩
  rw [hn] at HC ⊢
  dsimp only at HC ⊢
  clear hr hc hn
  go_enter Tryz.func81, Tryz.ntmps81
  go_wp2_with fail
  refine HC.out.mono ?_
  rintro e w' ⟨rfl, hb⟩
  have HB := zH hb
  clear hb
  go_wp2_with fail
  go_ret
  exact ⟨rfl, HB.out⟩
end
section
set_option maxRecDepth 100000
set_option maxHeartbeats 1600000
open Go.RowKit
attribute [local go_sem] Oper.semAt_some

/-- No range is wider than so much. -/
def spanB (d : Int) (c : List (Int × Int)) : Bool := decide (∀ k, k < c.length → (fg c k).2 - (fg c k).1 ≤ d)
theorem spanB_no {d : Int} {c : List (Int × Int)} {k : Nat} (hk : k < c.length) (h : d < (fg c k).2 - (fg c k).1) : spanB d c = false := by
  unfold spanB
  exact decide_eq_false (fun hh => by have := hh k hk; omega)
theorem spanB_yes {d : Int} {c : List (Int × Int)} (h : ∀ k, k < c.length → (fg c k).2 - (fg c k).1 ≤ d) : spanB d c = true := decide_eq_true h
def shrtB (c : List (Int × Int)) : Bool := spanB 5 c && decide (c.length ≤ 3)
def clssB (c : List (Int × Int)) : Bool := if 22 < c.length then false else if (chCl c).2 = 0 then spanB 11 c && decide (c.length ≤ 5) else true

theorem lShort_any (c : List (Int × Int)) (a : Option Addr) (cap : Nat) (w : World) (hc0 : (chCl c).2 = 0) (hr : Reads w a (c.length * 2) (fracs c)) :
    Calls Tryz.prog 36 #[.slice a c.length cap] w fun e w' => e = .returned (.bool (shrtB c)) ∧ Below w.heap.size w w' := by
  have HR := zH hr
  have HCK := zH (chCl_ok hc0)
  have HSN := zH (fun k (hk : k < c.length) h => (show shrtB c = false from by unfold shrtB; rw [spanB_no hk h]; rfl))
  have HSY := zH (fun h => (show shrtB c = decide (c.length ≤ 3) from by unfold shrtB; rw [spanB_yes h]; rfl))
  obtain ⟨r, hr'⟩ : ∃ r, shrtB c = r := ⟨_, rfl⟩
  obtain ⟨n, hn⟩ : ∃ n, c.length = n := ⟨_, rfl⟩
  rw [hr'] at HSN HSY ⊢
  rw [hn] at HR HCK HSN HSY ⊢
  have hn20 := HCK.out.1
  clear hr hr' hn hc0
  go_enter Tryz.func36, Tryz.ntmps36
  go_wp2_with fail
  go_loopw [3] (fun s3 wr => ∃ k : Nat, k ≤ n ∧ s3 = .int .i64 k ∧ Hid (∀ j, j < k → (fg c j).2 - (fg c j).1 ≤ 5) ∧ Hid (Below w.heap.size w wr)) (fun s3 _ => n - (intOf s3).toNat)
  case atStart => exact ⟨0, Nat.zero_le _, rfl, zH (fun j hj => by omega), zH (bSelf w)⟩
  case round =>
    obtain ⟨k, hk, rfl, hp, hB⟩ := hrel
    by_cases hlt : k < n
    · obtain ⟨b, off, rfl, hb, hc⟩ := (HR.out.to hB.out).at (k := k * 2) (by omega)
      obtain ⟨⟨v, q⟩, hv⟩ : ∃ v, fg c k = v := ⟨_, rfl⟩
      have HVQ := zH hv
      have H0 : Hid (wr.cell? ⟨b, off + k * 2, none⟩ = some (.int .i64 v)) := zH (by have := hc (k * 2) (by omega); rw [fracs0, hv] at this; exact this)
      have H1 : Hid (wr.cell? ⟨b, off + k * 2 + 1, none⟩ = some (.int .i64 q)) := zH (by have := hc (k * 2 + 1) (by omega); rw [fracs1, hv] at this; exact this)
      have hvb := HCK.out.2 k hlt
      rw [hv] at hvb
      dsimp only at hvb
      have HNO := zH (fun (h : 5 < q - v) => HSN.out k hlt (by rw [hv]; exact h))
      clear hc hv
      go_wp2_with fail
      refine wp_region_quiet_all (fun w' => Below (World.heap wr).size (wr) w') (by kernel_rfl) (by kernel_rfl) (Below.refl _ _).drew ?_
      refine WQ.out ?_
      repeat (first | (refine WQ_no (by rfl) ?_; (simp only [Act.put, zzT, zzO, zzS])) | (refine WQ_yes (by rfl) ?_; apply Exists.intro; refine ⟨fun w1 hb1 => ?_, ?_⟩; (focus (((have k1 := (hb1.cell (p := ⟨b, off + k * 2, none⟩) hb).trans H0.out; have k2 := (hb1.cell (p := ⟨b, off + k * 2 + 1, none⟩) hb).trans H1.out); have hb1 := zH hb1; go_simp); (try (go_bits; try go_simp)); (try (rw [if_pos (by omega)]; try go_simp)); (first | done | (with_reducible rfl) | exact rfl))); (simp only [Act.put, zzT, zzO, zzS])))
      refine WQ_nil ?_
      intro w1 hb1
      have HB1 := zH hb1
      clear hb1 H0 H1
      by_cases hw : 5 < q - v
      · obtain rfl : r = false := HNO.out hw
        go_wp2_with fail
        go_ret
        exact ⟨rfl, bThen (hB.out) HB1.out⟩
      · go_wp2_with fail
        go_roundw
        case rel =>
          refine ⟨k + 1, by omega, by go_num, zH (fun j hj => ?_), zH (bThen hB.out HB1.out)⟩
          by_cases h : j = k
          · subst h; rw [HVQ.out]; dsimp only; omega
          · exact hp.out j (by omega)
        case measure => simp [intOf]; omega
    · obtain rfl : n = k := by omega
      have hq := HSY.out hp.out
      subst hq
      go_wp2_with fail
      go_ret
      exact ⟨ret_bool (by by_cases h : n ≤ 3 <;> simp [h] <;> omega), hB.out⟩

theorem lClasses_any (c : List (Int × Int)) (a : Option Addr) (cap : Nat) (w : World) (hr : Reads w a (c.length * 2) (fracs c)) :
    Calls Tryz.prog 34 #[.slice a c.length cap] w fun e w' => e = .returned (.bool (clssB c)) ∧ Below w.heap.size w w' := by
  have HCE := zH (rClassErr_any c a cap w hr)
  have HR := zH hr
  have HCK := zH (fun hc0 => chCl_ok (c := c) hc0)
  have HV : Hid (clssB c = if 22 < c.length then false else if (chCl c).2 = 0 then spanB 11 c && decide (c.length ≤ 5) else true) := zH rfl
  have HSN0 := zH (fun k (hk : k < c.length) h => spanB_no (d := 11) hk h)
  have HSY0 := zH (fun h => spanB_yes (d := 11) (c := c) h)
  obtain ⟨r, hr'⟩ : ∃ r, clssB c = r := ⟨_, rfl⟩
  obtain ⟨sp, hsp⟩ : ∃ r, spanB 11 c = r := ⟨_, rfl⟩
  obtain ⟨ce, hce⟩ : ∃ r, (chCl c).2 = r := ⟨_, rfl⟩
  obtain ⟨n, hn⟩ : ∃ n, c.length = n := ⟨_, rfl⟩
  rw [hr'] at HV ⊢
  rw [hsp] at HV HSN0 HSY0
  rw [hce] at HCE HCK HV
  rw [hn] at HR HCE HCK HV HSN0 HSY0 ⊢
  clear hr hr' hn hsp hce
  by_cases h22 : 22 < n
  · obtain rfl : r = false := by rw [HV.out, if_pos h22]
    go_enter Tryz.func34, Tryz.ntmps34
    go_wp2_with fail
    go_ret
    exact ⟨rfl, bSelf w⟩
  · replace HV : Hid (r = if ce = 0 then sp && decide (n ≤ 5) else true) := zH (by rw [HV.out, if_neg h22])
    by_cases hz : ce = 0
    · subst hz
      obtain ⟨hn20, hck⟩ := HCK.out rfl
      replace HCK := zH (And.intro hn20 hck)
      clear hck
      have HSN := zH (fun k (hk : k < n) h => (show r = false from by rw [HV.out, if_pos rfl, HSN0.out k hk h]; rfl))
      have HSY := zH (fun h => (show r = decide (n ≤ 5) from by rw [HV.out, if_pos rfl, HSY0.out h]; rfl))
      clear HSN0 HSY0 HV
      go_enter Tryz.func34, Tryz.ntmps34
      go_wp2_with fail
      refine HCE.out.mono ?_
      rintro e w1 ⟨rfl, hb⟩
      have HB := zH hb
      replace HR := zH (HR.out.to hb)
      clear hb HCE
      go_wp2_with fail
      go_loopw [3] (fun s3 wr => ∃ k : Nat, k ≤ n ∧ s3 = .int .i64 k ∧ Hid (∀ j, j < k → (fg c j).2 - (fg c j).1 ≤ 11) ∧ Hid (Below w1.heap.size w1 wr)) (fun s3 _ => n - (intOf s3).toNat)
      case atStart => exact ⟨0, Nat.zero_le _, rfl, zH (fun j hj => by omega), zH (bSelf w1)⟩
      case round =>
        obtain ⟨k, hk, rfl, hp, hB⟩ := hrel
        by_cases hlt : k < n
        · obtain ⟨b, off, rfl, hb, hc⟩ := (HR.out.to hB.out).at (k := k * 2) (by omega)
          obtain ⟨⟨v, q⟩, hv⟩ : ∃ v, fg c k = v := ⟨_, rfl⟩
          have HVQ := zH hv
          have H0 : Hid (wr.cell? ⟨b, off + k * 2, none⟩ = some (.int .i64 v)) := zH (by have := hc (k * 2) (by omega); rw [fracs0, hv] at this; exact this)
          have H1 : Hid (wr.cell? ⟨b, off + k * 2 + 1, none⟩ = some (.int .i64 q)) := zH (by have := hc (k * 2 + 1) (by omega); rw [fracs1, hv] at this; exact this)
          have hvb := HCK.out.2 k hlt
          rw [hv] at hvb
          dsimp only at hvb
          have HNO := zH (fun (h : 11 < q - v) => HSN.out k hlt (by rw [hv]; exact h))
          clear hc hv
          go_wp2_with fail
          refine wp_region_quiet_all (fun w' => Below (World.heap wr).size (wr) w') (by kernel_rfl) (by kernel_rfl) (Below.refl _ _).drew ?_
          refine WQ.out ?_
          repeat (first | (refine WQ_no (by rfl) ?_; (simp only [Act.put, zzT, zzO, zzS])) | (refine WQ_yes (by rfl) ?_; apply Exists.intro; refine ⟨fun w1 hb1 => ?_, ?_⟩; (focus (((have k1 := (hb1.cell (p := ⟨b, off + k * 2, none⟩) hb).trans H0.out; have k2 := (hb1.cell (p := ⟨b, off + k * 2 + 1, none⟩) hb).trans H1.out); have hb1 := zH hb1; go_simp); (try (go_bits; try go_simp)); (try (rw [if_pos (by omega)]; try go_simp)); (first | done | (with_reducible rfl) | exact rfl))); (simp only [Act.put, zzT, zzO, zzS])))
          refine WQ_nil ?_
          intro w1 hb1
          have HB1 := zH hb1
          clear hb1 H0 H1
          by_cases hw : 11 < q - v
          · obtain rfl : r = false := HNO.out hw
            go_wp2_with fail
            go_ret
            exact ⟨rfl, bThen (bThen HB.out hB.out) HB1.out⟩
          · go_wp2_with fail
            go_roundw
            case rel =>
              refine ⟨k + 1, by omega, by go_num, zH (fun j hj => ?_), zH (bThen hB.out HB1.out)⟩
              by_cases h : j = k
              · subst h; rw [HVQ.out]; dsimp only; omega
              · exact hp.out j (by omega)
            case measure => simp [intOf]; omega
        · obtain rfl : n = k := by omega
          have hq := HSY.out hp.out
          subst hq
          go_wp2_with fail
          go_ret
          exact ⟨ret_bool (by by_cases h : n ≤ 5 <;> simp [h] <;> omega), bThen HB.out hB.out⟩
    · obtain rfl : r = true := by rw [HV.out, if_neg hz]
      have hz' : (ce != 0) = true := by simpa using hz
      clear HCK HSN0 HSY0 HV
      go_enter Tryz.func34, Tryz.ntmps34
      go_wp2_with fail
      refine HCE.out.mono ?_
      rintro e w1 ⟨rfl, hb⟩
      have HB := zH hb
      clear hb HCE
      go_wp2_with fail
      go_ret
      exact ⟨rfl, HB.out⟩
end
section
open Go.RowKit
attribute [local go_sem] Oper.semAt_some

theorem rtRg : RowTy Tryz.prog 65 25 2 16 (.agg #[.int .i64 0, .int .i64 0]) := by
  obtain ⟨i, h1, h2, h3, h4⟩ := info_parts (show (Tryz.prog.info? 25).map (fun i => (i.zero, i.size, i.bytes)) = some (some (.agg #[.int .i64 0, .int .i64 0]), 2, 16) by kernel_rfl)
  exact ⟨by kernel_rfl, ⟨i, h1, h2, h3, h4⟩, rfl, by omega, by omega⟩

set_option maxHeartbeats 800000 in
set_option maxRecDepth 100000 in
theorem CopyRanges_any (c : List (Int × Int)) (a : Option Addr) (cap : Nat) (w : World) (hfew : c.length ≤ 100000) (hr : Reads w a (c.length * 2) (fracs c)) :
    Calls Tryz.prog 39 #[.slice a c.length cap] w fun e w' => ∃ a' cap', e = .returned (.slice a' c.length cap') ∧ c.length ≤ cap' ∧ Reads w' a' (c.length * 2) (fracs c) ∧ Below w.heap.size w w' ∧ ∀ p, a' = some p → w.heap.size ≤ p.block := by
  cases a with
  | none =>
    have h0 : c.length = 0 := by
      rcases hr with h | ⟨b, off, e, -⟩
      · omega
      · cases e
    rw [h0]
    clear hr
    go_enter Tryz.func39, Tryz.ntmps39
    go_wp2_with fail
    go_ret
    exact ⟨_, _, rfl, by omega, .inl rfl, bAlloc (bSelf w) _, fun p hp => by cases hp; exact Nat.le_refl _⟩
  | some ad =>
    have HR := zH hr
    have HN := zH (Reads.newsF (HR.out.alloc (.cells #[] 25)))
    have HPO : Hid (∀ (u2 : World) (v : Value), u2.ownsRow w.heap.size 25 2 v c.length (fcells c) → ∃ a' c', v = .slice a' c.length c' ∧ c.length ≤ c' ∧ Reads u2 a' (c.length * 2) (fracs c) ∧ ∀ q, a' = some q → w.heap.size ≤ q.block) := zH (fun u2 v h => Reads.of_row (f := fracs c) h (fun i hi => fcells_get c i hi))
    have HCL : Hid ((fcells c).length = c.length * 2) := zH (fcells_len c)
    have HON := zH (onesF c)
    obtain ⟨n, hn⟩ : ∃ n, c.length = n := ⟨_, rfl⟩
    rw [hn] at HPO HCL hfew ⊢
    clear hr HR hn
    go_enter Tryz.func39, Tryz.ntmps39
    go_wp2_with (at_builtin; refine wpList_app w.heap.size rtRg rfl (.tmp 3) (.tmp 4) rfl (.slice (some ⟨w.heap.size, 0, none⟩) 0 0) 0 [] rfl (World.ownsRow_lit w #[] 0 (Nat.le_refl _) (by decide) rfl) ad n cap (fcells c) rfl HCL.out HN.out HON.out (by unfold maxLen; omega) (by omega) (by simp) ?_; intro v' w2 hown' hgrow _ hwhere; have HO := zH hown'; have HBB : Hid (Below w.heap.size w w2) := zH ((bAlloc (bSelf w) _).grown hgrow (by simp) (fun k e => by cases e; exact Nat.le_refl _)); clear hown' hgrow hwhere)
    go_ret
    have hrow := HO.out
    rw [Nat.zero_add, List.nil_append] at hrow
    obtain ⟨a', cap', rfl, hcp, hrd, hfr⟩ := HPO.out _ _ hrow
    exact ⟨a', cap', rfl, hcp, hrd, HBB.out, hfr⟩
end
section
open Go.RowKit

/-- A range scaled by percents. -/
def scR (pc : Int) (r : Int × Int) : Int × Int := (flQ (pc * r.1, 100), clQ (pc * r.2, 100))
/-- A class scaled by percents; none: an end would be too great. -/
def sclQ (pc : Int) : List (Int × Int) → Option (List (Int × Int))
  | [] => some []
  | r :: l => if 50 < (scR pc r).2 then none else (sclQ pc l).map (scR pc r :: ·)
theorem scR_same (r : Int × Int) : scR 100 r = r := by
  unfold scR flQ clQ
  dsimp only
  refine Prod.ext ?_ ?_
  · dsimp only; omega
  · dsimp only; omega
theorem sclQ_same : ∀ {l : List (Int × Int)}, (∀ r ∈ l, r.2 ≤ 50) → sclQ 100 l = some l
  | [], _ => rfl
  | r :: l, h => by
    unfold sclQ
    rw [scR_same, if_neg (by have := h r (List.mem_cons_self ..); omega), sclQ_same (fun q hq => h q (List.mem_cons_of_mem _ hq))]
    rfl
theorem sclQ_len {pc : Int} : ∀ {l m : List (Int × Int)}, sclQ pc l = some m → m.length = l.length ∧ ∀ i, i < l.length → fg m i = scR pc (fg l i) ∧ (fg m i).2 ≤ 50
  | [], m, h => by cases h; exact ⟨rfl, fun i hi => by simp at hi⟩
  | r :: l, m, h => by
    unfold sclQ at h
    by_cases c : 50 < (scR pc r).2
    · rw [if_pos c] at h; cases h
    · rw [if_neg c] at h
      cases e : sclQ pc l with
      | none => rw [e] at h; cases h
      | some k =>
        rw [e] at h
        cases h
        obtain ⟨h1, h2⟩ := sclQ_len e
        refine ⟨by rw [List.length_cons, List.length_cons, h1], fun i hi => ?_⟩
        cases i with
        | zero => exact ⟨rfl, by show (scR pc r).2 ≤ 50; omega⟩
        | succ i => exact h2 i (by rw [List.length_cons] at hi; omega)
/-- Is the class, scaled by so many percents, permitted? -/
def scG (p : Plt) (s : OSt) (lim : Int) (c : List (Int × Int)) (pc : Int) : Bool := match sclQ pc c with
  | none => false
  | some m => prmR p lim [s] m
/-- The first percents from k on, of m, with which it is not (k + m if it always is). -/
def scF (g : Int → Bool) : Nat → Nat → Nat
  | k, 0 => k
  | k, m + 1 => if g k then scF g (k + 1) m else k
theorem scF_spec (g : Int → Bool) : ∀ (m k : Nat), k ≤ scF g k m ∧ scF g k m ≤ k + m ∧ (∀ j : Nat, k ≤ j → j < scF g k m → g j = true) ∧ (scF g k m < k + m → g (scF g k m : Nat) = false)
  | 0, k => by unfold scF; exact ⟨Nat.le_refl _, Nat.le_refl _, fun j h1 h2 => by omega, fun h => by omega⟩
  | m + 1, k => by
    unfold scF
    by_cases c : g k = true
    · rw [if_pos c]
      obtain ⟨h1, h2, h3, h4⟩ := scF_spec g m (k + 1)
      refine ⟨by omega, by omega, fun j j1 j2 => ?_, fun h => h4 (by omega)⟩
      by_cases e : j = k
      · subst e; exact c
      · exact h3 j (by omega) j2
    · rw [if_neg c]
      exact ⟨Nat.le_refl _, by omega, fun j h1 h2 => by omega, fun _ => by simpa using c⟩
/-- The scale: one less than the first percents with which it is not permitted. -/
theorem scale_law {p : Plt} {s : OSt} {lim : Int} {c : List (Int × Int)} {n : Nat} (h : scF (scG p s lim c) 0 201 = n + 1) : ∃ m, sclQ n c = some m ∧ prmR p lim [s] m = true := by
  obtain ⟨-, -, h3, -⟩ := scF_spec (scG p s lim c) 201 0
  have := h3 n (Nat.zero_le _) (by omega)
  unfold scG at this
  cases e : sclQ n c with
  | none => rw [e] at this; cases this
  | some m => rw [e] at this; exact ⟨m, rfl, this⟩
/-- A plant with so many bottles. -/
def btlQ (k : Int) (l : List (Int × Int)) : List (Int × Int) := l.map fun x => (x.1 * k, x.2)
theorem btl_fg (k : Int) (l : List (Int × Int)) (i : Nat) : fg (btlQ k l) i = ((fg l i).1 * k, (fg l i).2) := by
  unfold fg btlQ
  rw [List.getD_eq_getElem?_getD, List.getD_eq_getElem?_getD, List.getElem?_map]
  cases l[i]? with
  | none => simp
  | some x => rfl
theorem btl_ok {k : Int} {l : List (Int × Int)} (h : PtsOk l) (hk : 1 ≤ k) (hc : capV (btlQ k l) ≤ 200) : PtsOk (btlQ k l) := by
  have hlen : (btlQ k l).length = l.length := by unfold btlQ; rw [List.length_map]
  have hcap : capV (btlQ k l) = capV l * k := by unfold capV; rw [hlen, btl_fg]
  have h2 := h.two
  refine ⟨by rw [hlen]; exact h.two, by rw [hlen]; exact h.few, by rw [btl_fg, h.v0]; simp, fun i hi => ?_, fun i hi => ?_, fun i hi => ?_⟩
  · rw [hlen] at hi
    rw [btl_fg]
    dsimp only
    have h0 := (h.vol i hi).1
    have hle := h.leV (i := i) (j := l.length - 1) (by omega) (by omega)
    have e1 := Int.mul_le_mul_of_nonneg_right hle (show 0 ≤ k by omega)
    have e2 := Int.mul_nonneg h0 (show 0 ≤ k by omega)
    rw [hcap] at hc
    unfold capV at hc
    exact ⟨e2, by omega⟩
  · rw [hlen] at hi
    rw [btl_fg]
    exact h.prs i hi
  · rw [hlen] at hi
    rw [btl_fg, btl_fg]
    obtain ⟨u1, u2⟩ := h.up i hi
    exact ⟨Int.mul_lt_mul_of_pos_right u1 (by omega), u2⟩
end
end Go.Proofs.YtjfedpblkejmkaaGreat
