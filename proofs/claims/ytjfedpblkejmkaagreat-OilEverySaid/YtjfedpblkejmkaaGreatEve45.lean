/-
  Texts of this claim, in their build order: OR11 OR12 OW6.
-/
import Derived.Test.YtjfedpblkejmkaaGreatEve44
import Derived.Test.YtjfedpblkejmkaaGreatEve43
import Derived.Test.YtjfedpblkejmkaaGreatEve18

/-
  The law: short, classes.
-/
namespace Go.Proofs.YtjfedpblkejmkaaGreat
open Go.RowKit
attribute [local go_sem] Oper.semAt_some

/-- No range is wider than so much. -/
def spanB (d : Int) (c : List (Int × Int)) : Bool := decide (∀ k, k < c.length → (fg c k).2 - (fg c k).1 ≤ d)
theorem spanB_no {d : Int} {c : List (Int × Int)} {k : Nat} (hk : k < c.length) (h : d < (fg c k).2 - (fg c k).1) : spanB d c = false := by
  unfold spanB
  exact decide_eq_false (fun hh => by have := hh k hk; omega)
theorem spanB_yes {d : Int} {c : List (Int × Int)} (h : ∀ k, k < c.length → (fg c k).2 - (fg c k).1 ≤ d) : spanB d c = true := decide_eq_true h
def shrtB (c : List (Int × Int)) : Bool := spanB 5 c && decide (c.length ≤ 3)
def clssB (c : List (Int × Int)) : Bool := if 22 < c.length then false else if (chCl c).2 = 0 then spanB 11 c && decide (c.length ≤ 5) else true

set_option maxHeartbeats 1600000 in
set_option maxRecDepth 100000 in
theorem lShort_any (c : List (Int × Int)) (a : Option Addr) (cap : Nat) (w : World) (hc0 : (chCl c).2 = 0) (hr : Reads w a (c.length * 2) (fracs c)) :
    Calls Tryz.prog 36 #[.slice a c.length cap] w fun e w' => e = .returned (.bool (shrtB c)) ∧ Below w.heap.size w w' := by
  have HR := Lib.hid hr
  have HCK := Lib.hid (chCl_ok hc0)
  have HSN := Lib.hid (fun k (hk : k < c.length) h => (show shrtB c = false from by unfold shrtB; rw [spanB_no hk h]; rfl))
  have HSY := Lib.hid (fun h => (show shrtB c = decide (c.length ≤ 3) from by unfold shrtB; rw [spanB_yes h]; rfl))
  obtain ⟨r, hr'⟩ : ∃ r, shrtB c = r := ⟨_, rfl⟩
  obtain ⟨n, hn⟩ : ∃ n, c.length = n := ⟨_, rfl⟩
  rw [hr'] at HSN HSY ⊢
  rw [hn] at HR HCK HSN HSY ⊢
  have hn20 := HCK.out.1
  clear hr hr' hn hc0
  go_enter Tryz.func36, Tryz.ntmps36
  go_wp2_with fail
  go_loopw [3] (fun s3 wr => ∃ k : Nat, k ≤ n ∧ s3 = .int .i64 k ∧ Hid (∀ j, j < k → (fg c j).2 - (fg c j).1 ≤ 5) ∧ Hid (Below w.heap.size w wr)) (fun s3 _ => n - (intOf s3).toNat)
  case atStart => exact ⟨0, Nat.zero_le _, rfl, Lib.hid (fun j hj => by omega), Lib.hid (bSelf w)⟩
  case round =>
    obtain ⟨k, hk, rfl, hp, hB⟩ := hrel
    by_cases hlt : k < n
    · obtain ⟨b, off, rfl, hb, hc⟩ := (HR.out.to hB.out).at (k := k * 2) (by omega)
      obtain ⟨⟨v, q⟩, hv⟩ : ∃ v, fg c k = v := ⟨_, rfl⟩
      have HVQ := Lib.hid hv
      have H0 : Hid (wr.cell? ⟨b, off + k * 2, none⟩ = some (.int .i64 v)) := Lib.hid (by have := hc (k * 2) (by omega); rw [fracs0, hv] at this; exact this)
      have H1 : Hid (wr.cell? ⟨b, off + k * 2 + 1, none⟩ = some (.int .i64 q)) := Lib.hid (by have := hc (k * 2 + 1) (by omega); rw [fracs1, hv] at this; exact this)
      have hvb := HCK.out.2 k hlt
      rw [hv] at hvb
      dsimp only at hvb
      have HNO := Lib.hid (fun (h : 5 < q - v) => HSN.out k hlt (by rw [hv]; exact h))
      clear hc hv
      go_wp2_with fail
      refine wp_region_quiet_all (fun w' => Below (World.heap wr).size (wr) w') (by kernel_rfl) (by kernel_rfl) (Below.refl _ _).drew ?_
      refine WQ.out ?_
      repeat (first | (refine WQ_no (by rfl) ?_; (simp only [Act.put, List.setIfInBounds_toArray, List.set_cons_zero, List.set_cons_succ])) | (refine WQ_yes (by rfl) ?_; apply Exists.intro; refine ⟨fun w1 hb1 => ?_, ?_⟩; (focus (((have k1 := (hb1.cell (p := ⟨b, off + k * 2, none⟩) hb).trans H0.out; have k2 := (hb1.cell (p := ⟨b, off + k * 2 + 1, none⟩) hb).trans H1.out); have hb1 := Lib.hid hb1; go_simp); (try (go_bits; try go_simp)); (try (rw [if_pos (by omega)]; try go_simp)); (first | done | (fail) | (with_reducible rfl) | exact rfl))); (simp only [Act.put, List.setIfInBounds_toArray, List.set_cons_zero, List.set_cons_succ])))
      refine WQ_nil ?_
      intro w1 hb1
      have HB1 := Lib.hid hb1
      clear hb1 H0 H1
      by_cases hw : 5 < q - v
      · obtain rfl : r = false := HNO.out hw
        go_wp2_with fail
        go_ret
        exact ⟨rfl, bThen (hB.out) HB1.out⟩
      · go_wp2_with fail
        go_roundw
        case rel =>
          refine ⟨k + 1, by omega, by go_num, Lib.hid (fun j hj => ?_), Lib.hid (bThen hB.out HB1.out)⟩
          by_cases h : j = k
          · subst h; rw [HVQ.out]; dsimp only; omega
          · exact hp.out j (by omega)
        case measure => simp [intOf]; omega
    · obtain rfl : n = k := by omega
      have hq := HSY.out hp.out
      subst hq
      go_wp2_with fail
      go_ret
      exact ⟨ret_bool (by by_cases h : n ≤ 3 <;> simp [h] <;> omega), hB.out⟩

set_option maxHeartbeats 1600000 in
set_option maxRecDepth 100000 in
theorem lClasses_any (c : List (Int × Int)) (a : Option Addr) (cap : Nat) (w : World) (hr : Reads w a (c.length * 2) (fracs c)) :
    Calls Tryz.prog 34 #[.slice a c.length cap] w fun e w' => e = .returned (.bool (clssB c)) ∧ Below w.heap.size w w' := by
  have HCE := Lib.hid (rClassErr_any c a cap w hr)
  have HR := Lib.hid hr
  have HCK := Lib.hid (fun hc0 => chCl_ok (c := c) hc0)
  have HV : Hid (clssB c = if 22 < c.length then false else if (chCl c).2 = 0 then spanB 11 c && decide (c.length ≤ 5) else true) := Lib.hid rfl
  have HSN0 := Lib.hid (fun k (hk : k < c.length) h => spanB_no (d := 11) hk h)
  have HSY0 := Lib.hid (fun h => spanB_yes (d := 11) (c := c) h)
  obtain ⟨r, hr'⟩ : ∃ r, clssB c = r := ⟨_, rfl⟩
  obtain ⟨sp, hsp⟩ : ∃ r, spanB 11 c = r := ⟨_, rfl⟩
  obtain ⟨ce, hce⟩ : ∃ r, (chCl c).2 = r := ⟨_, rfl⟩
  obtain ⟨n, hn⟩ : ∃ n, c.length = n := ⟨_, rfl⟩
  rw [hr'] at HV ⊢
  rw [hsp] at HV HSN0 HSY0
  rw [hce] at HCE HCK HV
  rw [hn] at HR HCE HCK HV HSN0 HSY0 ⊢
  clear hr hr' hn hsp hce
  by_cases h22 : 22 < n
  · obtain rfl : r = false := by rw [HV.out, if_pos h22]
    go_enter Tryz.func34, Tryz.ntmps34
    go_wp2_with fail
    go_ret
    exact ⟨rfl, bSelf w⟩
  · replace HV : Hid (r = if ce = 0 then sp && decide (n ≤ 5) else true) := Lib.hid (by rw [HV.out, if_neg h22])
    by_cases hz : ce = 0
    · subst hz
      obtain ⟨hn20, hck⟩ := HCK.out rfl
      replace HCK := Lib.hid (And.intro hn20 hck)
      clear hck
      have HSN := Lib.hid (fun k (hk : k < n) h => (show r = false from by rw [HV.out, if_pos rfl, HSN0.out k hk h]; rfl))
      have HSY := Lib.hid (fun h => (show r = decide (n ≤ 5) from by rw [HV.out, if_pos rfl, HSY0.out h]; rfl))
      clear HSN0 HSY0 HV
      go_enter Tryz.func34, Tryz.ntmps34
      go_wp2_with fail
      refine HCE.out.mono ?_
      rintro e w1 ⟨rfl, hb⟩
      have HB := Lib.hid hb
      replace HR := Lib.hid (HR.out.to hb)
      clear hb HCE
      go_wp2_with fail
      go_loopw [3] (fun s3 wr => ∃ k : Nat, k ≤ n ∧ s3 = .int .i64 k ∧ Hid (∀ j, j < k → (fg c j).2 - (fg c j).1 ≤ 11) ∧ Hid (Below w1.heap.size w1 wr)) (fun s3 _ => n - (intOf s3).toNat)
      case atStart => exact ⟨0, Nat.zero_le _, rfl, Lib.hid (fun j hj => by omega), Lib.hid (bSelf w1)⟩
      case round =>
        obtain ⟨k, hk, rfl, hp, hB⟩ := hrel
        by_cases hlt : k < n
        · obtain ⟨b, off, rfl, hb, hc⟩ := (HR.out.to hB.out).at (k := k * 2) (by omega)
          obtain ⟨⟨v, q⟩, hv⟩ : ∃ v, fg c k = v := ⟨_, rfl⟩
          have HVQ := Lib.hid hv
          have H0 : Hid (wr.cell? ⟨b, off + k * 2, none⟩ = some (.int .i64 v)) := Lib.hid (by have := hc (k * 2) (by omega); rw [fracs0, hv] at this; exact this)
          have H1 : Hid (wr.cell? ⟨b, off + k * 2 + 1, none⟩ = some (.int .i64 q)) := Lib.hid (by have := hc (k * 2 + 1) (by omega); rw [fracs1, hv] at this; exact this)
          have hvb := HCK.out.2 k hlt
          rw [hv] at hvb
          dsimp only at hvb
          have HNO := Lib.hid (fun (h : 11 < q - v) => HSN.out k hlt (by rw [hv]; exact h))
          clear hc hv
          go_wp2_with fail
          refine wp_region_quiet_all (fun w' => Below (World.heap wr).size (wr) w') (by kernel_rfl) (by kernel_rfl) (Below.refl _ _).drew ?_
          refine WQ.out ?_
          repeat (first | (refine WQ_no (by rfl) ?_; (simp only [Act.put, List.setIfInBounds_toArray, List.set_cons_zero, List.set_cons_succ])) | (refine WQ_yes (by rfl) ?_; apply Exists.intro; refine ⟨fun w1 hb1 => ?_, ?_⟩; (focus (((have k1 := (hb1.cell (p := ⟨b, off + k * 2, none⟩) hb).trans H0.out; have k2 := (hb1.cell (p := ⟨b, off + k * 2 + 1, none⟩) hb).trans H1.out); have hb1 := Lib.hid hb1; go_simp); (try (go_bits; try go_simp)); (try (rw [if_pos (by omega)]; try go_simp)); (first | done | (fail) | (with_reducible rfl) | exact rfl))); (simp only [Act.put, List.setIfInBounds_toArray, List.set_cons_zero, List.set_cons_succ])))
          refine WQ_nil ?_
          intro w1 hb1
          have HB1 := Lib.hid hb1
          clear hb1 H0 H1
          by_cases hw : 11 < q - v
          · obtain rfl : r = false := HNO.out hw
            go_wp2_with fail
            go_ret
            exact ⟨rfl, bThen (bThen HB.out hB.out) HB1.out⟩
          · go_wp2_with fail
            go_roundw
            case rel =>
              refine ⟨k + 1, by omega, by go_num, Lib.hid (fun j hj => ?_), Lib.hid (bThen hB.out HB1.out)⟩
              by_cases h : j = k
              · subst h; rw [HVQ.out]; dsimp only; omega
              · exact hp.out j (by omega)
            case measure => simp [intOf]; omega
        · obtain rfl : n = k := by omega
          have hq := HSY.out hp.out
          subst hq
          go_wp2_with fail
          go_ret
          exact ⟨ret_bool (by by_cases h : n ≤ 5 <;> simp [h] <;> omega), bThen HB.out hB.out⟩
    · obtain rfl : r = true := by rw [HV.out, if_neg hz]
      have hz' : (ce != 0) = true := by simpa using hz
      clear HCK HSN0 HSY0 HV
      go_enter Tryz.func34, Tryz.ntmps34
      go_wp2_with fail
      refine HCE.out.mono ?_
      rintro e w1 ⟨rfl, hb⟩
      have HB := Lib.hid hb
      clear hb HCE
      go_wp2_with fail
      go_ret
      exact ⟨rfl, HB.out⟩

end Go.Proofs.YtjfedpblkejmkaaGreat

/-
  CopyRanges.
-/
namespace Go.Proofs.YtjfedpblkejmkaaGreat
open Go.RowKit
attribute [local go_sem] Oper.semAt_some

theorem rtRg : RowTy Tryz.prog 65 25 2 16 (.agg #[.int .i64 0, .int .i64 0]) := by
  obtain ⟨i, h1, h2, h3, h4⟩ := info_parts (show (Tryz.prog.info? 25).map (fun i => (i.zero, i.size, i.bytes)) = some (some (.agg #[.int .i64 0, .int .i64 0]), 2, 16) by kernel_rfl)
  exact ⟨by kernel_rfl, ⟨i, h1, h2, h3, h4⟩, rfl, by omega, by omega⟩

set_option maxHeartbeats 800000 in
set_option maxRecDepth 100000 in
theorem CopyRanges_any (c : List (Int × Int)) (a : Option Addr) (cap : Nat) (w : World) (hfew : c.length ≤ 100000) (hr : Reads w a (c.length * 2) (fracs c)) :
    Calls Tryz.prog 39 #[.slice a c.length cap] w fun e w' => ∃ a' cap', e = .returned (.slice a' c.length cap') ∧ c.length ≤ cap' ∧ Reads w' a' (c.length * 2) (fracs c) ∧ Below w.heap.size w w' ∧ ∀ p, a' = some p → w.heap.size ≤ p.block := by
  cases a with
  | none =>
    have h0 : c.length = 0 := by
      rcases hr with h | ⟨b, off, e, -⟩
      · omega
      · cases e
    rw [h0]
    clear hr
    go_enter Tryz.func39, Tryz.ntmps39
    go_wp2_with fail
    go_ret
    exact ⟨_, _, rfl, by omega, .inl rfl, bAlloc (bSelf w) _, fun p hp => by cases hp; exact Nat.le_refl _⟩
  | some ad =>
    have HR := Lib.hid hr
    have HN := Lib.hid (Reads.newsF (HR.out.alloc (.cells #[] 25)))
    have HPO : Hid (∀ (u2 : World) (v : Value), u2.ownsRow w.heap.size 25 2 v c.length (fcells c) → ∃ a' c', v = .slice a' c.length c' ∧ c.length ≤ c' ∧ Reads u2 a' (c.length * 2) (fracs c) ∧ ∀ q, a' = some q → w.heap.size ≤ q.block) := Lib.hid (fun u2 v h => Reads.of_row (f := fracs c) h (fun i hi => fcells_get c i hi))
    have HCL : Hid ((fcells c).length = c.length * 2) := Lib.hid (fcells_len c)
    have HON := Lib.hid (onesF c)
    obtain ⟨n, hn⟩ : ∃ n, c.length = n := ⟨_, rfl⟩
    rw [hn] at HPO HCL hfew ⊢
    clear hr HR hn
    go_enter Tryz.func39, Tryz.ntmps39
    go_wp2_with (at_builtin; refine wpList_app w.heap.size rtRg rfl (.tmp 3) (.tmp 4) rfl (.slice (some ⟨w.heap.size, 0, none⟩) 0 0) 0 [] rfl (World.ownsRow_lit w #[] 0 (Nat.le_refl _) (by decide) rfl) ad n cap (fcells c) rfl HCL.out HN.out HON.out (by unfold maxLen; omega) (by omega) (by simp) ?_; intro v' w2 hown' hgrow _ hwhere; have HO := Lib.hid hown'; have HBB : Hid (Below w.heap.size w w2) := Lib.hid ((bAlloc (bSelf w) _).grown hgrow (by simp) (fun k e => by cases e; exact Nat.le_refl _)); clear hown' hgrow hwhere)
    go_ret
    have hrow := HO.out
    rw [Nat.zero_add, List.nil_append] at hrow
    obtain ⟨a', cap', rfl, hcp, hrd, hfr⟩ := HPO.out _ _ hrow
    exact ⟨a', cap', rfl, hcp, hrd, HBB.out, hfr⟩

end Go.Proofs.YtjfedpblkejmkaaGreat

/-
  Contracts for OilWitness: the calls of the law at a valid class.
-/
namespace Go.Proofs.YtjfedpblkejmkaaGreat
open Go.RowKit

theorem perm_c (p : Plt) (s : OSt) (c : List (Int × Int)) (lim : Int) (a ac : Option Addr) (cap cc : Nat) (w : World) (h : opLE p s.1 c lim = 0) (hlen : p.pts.length ≤ 1000) (hlc : c.length ≤ maxLen) (hrc : Reads w ac (c.length * 2) (fracs c)) (hr : Reads w a (p.pts.length * 2) (fracs p.pts)) :
    Calls Tryz.prog 40 #[.agg (plC p a cap), .agg #[.int .i64 s.1, .bool s.2], .slice ac c.length cc, .int .i64 lim] w fun e w' => e = .returned (.tuple #[.bool (prmB p s c lim), .int .i64 0]) ∧ Below w.heap.size w w' := by
  have h1 := IsPermitted_any p s c lim a ac cap cc w hlen hlc hrc hr
  rw [h] at h1
  exact h1
end Go.Proofs.YtjfedpblkejmkaaGreat

