/-
  Texts of this claim, in their build order: OM9.
-/
import Derived.Test.YtbpcapcgbnbknaaGreatOne36
import Derived.Test.YtbpcapcgbnbknaaGreatOne28
import Derived.Test.YtbpcapcgbnbknaaGreatOne0

namespace Go.Proofs.YtbpcapcgbnbknaaGreat
section
set_option maxRecDepth 100000
set_option maxHeartbeats 3200000
open Go.RowKit
attribute [local go_sem] Oper.semAt_some

theorem opCE_ok {p : Plt} {s : OSt} {c : List (Int × Int)} (h : opCE p s.1 c = 0) : PltOk p ∧ StOk p s ∧ c.length ≤ 20 ∧ ∀ k, k < c.length → 0 ≤ (fg c k).1 ∧ (fg c k).2 ≤ 50 ∧ (fg c k).1 ≤ (fg c k).2 :=
  ⟨(opSE_ok (firstE2.1 h).1).1, (opSE_ok (firstE2.1 h).1).2, chCl_ok (firstE2.1 h).2⟩
theorem opLE_ok {p : Plt} {s : OSt} {c : List (Int × Int)} {lim : Int} (h : opLE p s.1 c lim = 0) : (PltOk p ∧ StOk p s ∧ c.length ≤ 20 ∧ ∀ k, k < c.length → 0 ≤ (fg c k).1 ∧ (fg c k).2 ≤ 50 ∧ (fg c k).1 ≤ (fg c k).2) ∧ Nin lim := by
  obtain ⟨h1, h2⟩ := firstE2.1 h
  rw [unlZ (by decide), wthn_iff] at h2
  exact ⟨opCE_ok h1, by omega, by omega⟩
/-- WitnessOf's answer, and its error. -/
def wtnO (p : Plt) (s : OSt) (c : List (Int × Int)) (lim : Int) : Option (List Int) := if opLE p s.1 c lim = 0 then witA p lim (tks p c [(s, [])]) else none
def wtnE (p : Plt) (s : OSt) (c : List (Int × Int)) (lim : Int) : Int := if opLE p s.1 c lim = 0 then unl (witA p lim (tks p c [(s, [])])).isSome 12 else opLE p s.1 c lim
/-- IsPermitted's answer. -/
def prmB (p : Plt) (s : OSt) (c : List (Int × Int)) (lim : Int) : Bool := if opLE p s.1 c lim = 0 then (witA p lim (tks p c [(s, [])])).isNone else false

theorem WitnessOf_any (p : Plt) (s : OSt) (c : List (Int × Int)) (lim : Int) (a ac : Option Addr) (cap cc : Nat) (w : World) (hlen : p.pts.length ≤ 1000) (hlc : c.length ≤ maxLen) (hrc : Reads w ac (c.length * 2) (fracs c)) (hr : Reads w a (p.pts.length * 2) (fracs p.pts)) :
    Calls Tryz.prog 71 #[.agg (plC p a cap), .agg #[.int .i64 s.1, .bool s.2], .slice ac c.length cc, .int .i64 lim] w fun e w' => ∃ q c', e = .returned (.tuple #[.slice q ((wtnO p s c lim).getD []).length c', .int .i64 (wtnE p s c lim)]) ∧ ((wtnO p s c lim).getD []).length ≤ c' ∧ Reads w' q ((wtnO p s c lim).getD []).length (ints ((wtnO p s c lim).getD [])) ∧ Below w.heap.size w w' ∧ (wtnO p s c lim = none → q = none ∧ c' = 0) := by
  have HO := zH (fun W (hb : Below w.heap.size w W) => openLimit_any p s c lim a ac cap cc W hlen hlc (hrc.to hb) (hr.to hb))
  have HN := zH (fun W al cl (hb : Below w.heap.size w W) (h0 : opLE p s.1 c lim = 0) hrd => witness_any p s c lim a al ac cap cl cc W (opLE_ok h0).1.1 (opLE_ok h0).1.2.1 (opLE_ok h0).1.2.2 (opLE_ok h0).2 hrd (hrc.to hb))
  have HP : Hid (wtnO p s c lim = if opLE p s.1 c lim = 0 then witA p lim (tks p c [(s, [])]) else none) := zH rfl
  have HR : Hid (wtnE p s c lim = if opLE p s.1 c lim = 0 then unl (witA p lim (tks p c [(s, [])])).isSome 12 else opLE p s.1 c lim) := zH rfl
  obtain ⟨ro, hro⟩ : ∃ e, wtnO p s c lim = e := ⟨_, rfl⟩
  obtain ⟨re, hre⟩ : ∃ e, wtnE p s c lim = e := ⟨_, rfl⟩
  rw [hro] at HP ⊢
  rw [hre] at HR ⊢
  clear hro hre
  obtain ⟨oe, hoe⟩ : ∃ e, opLE p s.1 c lim = e := ⟨_, rfl⟩
  obtain ⟨wt, hwt⟩ : ∃ e, witA p lim (tks p c [(s, [])]) = e := ⟨_, rfl⟩
  rw [hoe] at HO HN
  rw [hoe, hwt] at HP HR
  rw [hwt] at HN
  clear hoe hwt hr hrc hlen hlc
  obtain ⟨s1, sr⟩ := s
  dsimp only at HO HN ⊢
  by_cases h0 : oe = 0
  · subst h0
    rw [if_pos rfl] at HP HR
    obtain rfl : ro = wt := HP.out
    replace HN := zH (fun W al cl hb hr => HN.out W al cl hb rfl hr)
    go_enter Tryz.func71, Tryz.ntmps71
    go_wp2_with fail
    refine (HO.out _ (bAlloc (bAlloc (bSelf w) _) _)).mono ?_
    intro e w1 hpost
    obtain ⟨al, cl, rfl, hcl, hrd, hb, hfr⟩ := hpost.ex
    have K1 : Hid (Blk w1 (w.heap.size + 1) #[.int .i64 s1, .bool sr]) := zH ((Blk.newAt _ _ _ (by simp)).to hb)
    have HB := zH (bThen (bAlloc (bAlloc (bSelf w) _) _) hb)
    have HRD := zH hrd
    clear hb hrd hpost hfr HO
    have k1 := K1.out.c1
    go_wp2_with fail
    refine (HN.out _ al cl (bAlloc HB.out _) (HRD.out.alloc _)).mono ?_
    rintro e w2 ⟨q, c', rfl, hc', hq, hb2, hno⟩
    have HB2 := zH (bThen (bAlloc HB.out _) hb2)
    have HQ := zH hq
    have HC := zH hc'
    have HNO := zH hno
    clear hb2 hq hc' hno k1
    go_wp2_with (go_at_call 80; refine (oUnless_any _ _ _).mono ?_; rintro e w' ⟨rfl, rfl⟩; rw [← HR.out])
    refine bodyPost_ret (results_tmp2 rfl _ _ _) rfl ?_
    exact ⟨q, c', rfl, HC.out, HQ.out, HB2.out, HNO.out⟩
  · have h0' : (oe != 0) = true := by simpa using h0
    rw [if_neg h0] at HP HR
    obtain rfl : ro = none := HP.out
    obtain rfl : re = oe := HR.out
    clear h0 HN
    go_enter Tryz.func71, Tryz.ntmps71
    go_wp2_with fail
    refine (HO.out _ (bAlloc (bAlloc (bSelf w) _) _)).mono ?_
    intro e w1 hpost
    obtain ⟨al, cl, rfl, hcl, hrd, hb, hfr⟩ := hpost.ex
    have HB := zH (bThen (bAlloc (bAlloc (bSelf w) _) _) hb)
    clear hb hrd hpost hfr HO
    go_wp2_with fail
    refine bodyPost_ret (results_tmp2 rfl _ _ _) rfl ?_
    exact ⟨none, 0, rfl, Nat.le_refl _, .inl rfl, bAlloc HB.out _, fun _ => ⟨rfl, rfl⟩⟩

theorem IsPermitted_any (p : Plt) (s : OSt) (c : List (Int × Int)) (lim : Int) (a ac : Option Addr) (cap cc : Nat) (w : World) (hlen : p.pts.length ≤ 1000) (hlc : c.length ≤ maxLen) (hrc : Reads w ac (c.length * 2) (fracs c)) (hr : Reads w a (p.pts.length * 2) (fracs p.pts)) :
    Calls Tryz.prog 30 #[.agg (plC p a cap), .agg #[.int .i64 s.1, .bool s.2], .slice ac c.length cc, .int .i64 lim] w fun e w' => e = .returned (.tuple #[.bool (prmB p s c lim), .int .i64 (opLE p s.1 c lim)]) ∧ Below w.heap.size w w' := by
  have HO := zH (fun W (hb : Below w.heap.size w W) => openLimit_any p s c lim a ac cap cc W hlen hlc (hrc.to hb) (hr.to hb))
  have HN := zH (fun W al cl (hb : Below w.heap.size w W) (h0 : opLE p s.1 c lim = 0) hrd => witness_any p s c lim a al ac cap cl cc W (opLE_ok h0).1.1 (opLE_ok h0).1.2.1 (opLE_ok h0).1.2.2 (opLE_ok h0).2 hrd (hrc.to hb))
  have HP : Hid (prmB p s c lim = if opLE p s.1 c lim = 0 then (witA p lim (tks p c [(s, [])])).isNone else false) := zH rfl
  obtain ⟨ro, hro⟩ : ∃ e, prmB p s c lim = e := ⟨_, rfl⟩
  rw [hro] at HP ⊢
  clear hro
  obtain ⟨oe, hoe⟩ : ∃ e, opLE p s.1 c lim = e := ⟨_, rfl⟩
  obtain ⟨wt, hwt⟩ : ∃ e, witA p lim (tks p c [(s, [])]) = e := ⟨_, rfl⟩
  rw [hoe] at HO HN
  rw [hoe, hwt] at HP
  rw [hoe]
  rw [hwt] at HN
  clear hoe hwt hr hrc hlen hlc
  obtain ⟨s1, sr⟩ := s
  dsimp only at HO HN ⊢
  by_cases h0 : oe = 0
  · subst h0
    rw [if_pos rfl] at HP
    obtain rfl : ro = wt.isNone := HP.out
    replace HN := zH (fun W al cl hb hr => HN.out W al cl hb rfl hr)
    go_enter Tryz.func30, Tryz.ntmps30
    go_wp2_with fail
    refine (HO.out _ (bAlloc (bAlloc (bSelf w) _) _)).mono ?_
    intro e w1 hpost
    obtain ⟨al, cl, rfl, hcl, hrd, hb, hfr⟩ := hpost.ex
    have K1 : Hid (Blk w1 (w.heap.size + 1) #[.int .i64 s1, .bool sr]) := zH ((Blk.newAt _ _ _ (by simp)).to hb)
    have HB := zH (bThen (bAlloc (bAlloc (bSelf w) _) _) hb)
    have HRD := zH hrd
    clear hb hrd hpost hfr HO
    have k1 := K1.out.c1
    go_wp2_with fail
    refine (HN.out _ al cl (bAlloc HB.out _) (HRD.out.alloc _)).mono ?_
    rintro e w2 ⟨q, c', rfl, hc', hq, hb2, hno⟩
    have HB2 := zH (bThen (bAlloc HB.out _) hb2)
    have HQ := zH hq
    have HC := zH hc'
    have HNO := zH hno
    clear hb2 hq hc' hno k1
    go_wp2_with fail
    refine bodyPost_ret (results_tmp2 rfl _ _ _) rfl ?_
    exact ⟨rfl, HB2.out⟩
  · have h0' : (oe != 0) = true := by simpa using h0
    rw [if_neg h0] at HP
    obtain rfl : ro = false := HP.out
    clear h0 HN
    go_enter Tryz.func30, Tryz.ntmps30
    go_wp2_with fail
    refine (HO.out _ (bAlloc (bAlloc (bSelf w) _) _)).mono ?_
    intro e w1 hpost
    obtain ⟨al, cl, rfl, hcl, hrd, hb, hfr⟩ := hpost.ex
    have HB := zH (bThen (bAlloc (bAlloc (bSelf w) _) _) hb)
    clear hb hrd hpost hfr HO
    go_wp2_with fail
    refine bodyPost_ret (results_tmp2 rfl _ _ _) rfl ?_
    exact ⟨rfl, bAlloc HB.out _⟩
end
end Go.Proofs.YtbpcapcgbnbknaaGreat
