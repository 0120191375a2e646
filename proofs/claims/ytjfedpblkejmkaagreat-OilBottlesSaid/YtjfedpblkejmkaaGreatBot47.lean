/-
  Texts of this claim, in their build order: OM29.
-/
import Derived.Test.YtjfedpblkejmkaaGreatBot31
import Derived.Test.YtjfedpblkejmkaaGreatBot45
import Derived.Test.YtjfedpblkejmkaaGreatBot0

namespace Go.Proofs.YtjfedpblkejmkaaGreat
section
open Go.RowKit
attribute [local go_sem] Oper.semAt_some

/-- The first percents with which a class is not permitted, and ScaleFor's answer and error. -/
def scK (p : Plt) (s : OSt) (c : List (Int × Int)) (lim : Int) : Nat := scF (scG p s lim c) 0 201
def scfO (p : Plt) (s : OSt) (c : List (Int × Int)) (lim : Int) : Int := if opLE p s.1 c lim = 0 then max 0 ((scK p s c lim : Int) - 1) else 0
def scfE (p : Plt) (s : OSt) (c : List (Int × Int)) (lim : Int) : Int := if opLE p s.1 c lim = 0 then unl (decide ((0 : Int) < (scK p s c lim : Int))) 12 else opLE p s.1 c lim
theorem scl_ok {pc : Int} {c m : List (Int × Int)} (hpc : 0 ≤ pc ∧ pc ≤ 200) (h : sclQ pc c = some m) (hc : ∀ k, k < c.length → 0 ≤ (fg c k).1 ∧ (fg c k).2 ≤ 50 ∧ (fg c k).1 ≤ (fg c k).2) :
    ∀ k, k < m.length → 0 ≤ (fg m k).1 ∧ (fg m k).2 ≤ 50 ∧ (fg m k).1 ≤ (fg m k).2 := by
  obtain ⟨h1, h2⟩ := sclQ_len h
  intro k hk
  rw [h1] at hk
  obtain ⟨e, h3⟩ := h2 k hk
  obtain ⟨c0, c1, c2⟩ := hc k hk
  refine ⟨?_, h3, ?_⟩
  · rw [e, scR_val]
    have := Int.mul_nonneg hpc.1 c0
    dsimp only
    omega
  · rw [e, scR_val]
    have := Int.mul_le_mul_of_nonneg_left c2 hpc.1
    dsimp only
    omega
theorem scG_none {p : Plt} {s : OSt} {lim : Int} {c : List (Int × Int)} {pc : Int} (h : sclQ pc c = none) : scG p s lim c pc = false := by unfold scG; rw [h]
theorem scG_some {p : Plt} {s : OSt} {lim : Int} {c m : List (Int × Int)} {pc : Int} (h : sclQ pc c = some m) : scG p s lim c pc = prmR p lim [s] m := by unfold scG; rw [h]
theorem prm_wit {p : Plt} {s : OSt} {lim : Int} {c : List (Int × Int)} : prmR p lim [s] c = (witA p lim (tks p c [(s, [])])).isNone := prm_law c [(s, [])] [s] (fun x => by simp [sts])
theorem scF_go (g : Int → Bool) {k : Nat} (hk : k ≤ 200) (h : g (k : Int) = true) : scF g k (201 - k) = scF g (k + 1) (201 - (k + 1)) := by
  obtain ⟨m, hm⟩ : ∃ m, 201 - k = m + 1 := ⟨200 - k, by omega⟩
  rw [hm, show 201 - (k + 1) = m by omega]
  show (if g k then scF g (k + 1) m else k) = _
  rw [if_pos h]
theorem scF_stop (g : Int → Bool) {k : Nat} (hk : k ≤ 200) (h : g (k : Int) = false) : scF g k (201 - k) = k := by
  obtain ⟨m, hm⟩ : ∃ m, 201 - k = m + 1 := ⟨200 - k, by omega⟩
  rw [hm]
  show (if g k then scF g (k + 1) m else k) = _
  rw [if_neg (by rw [h]; decide)]

set_option maxHeartbeats 6400000 in
set_option maxRecDepth 100000 in
theorem ScaleFor_any (p : Plt) (s : OSt) (c : List (Int × Int)) (lim : Int) (a ac : Option Addr) (cap cc : Nat) (w : World) (hlen : p.pts.length ≤ 1000) (hlc : c.length ≤ maxLen) (hrc : Reads w ac (c.length * 2) (fracs c)) (hr : Reads w a (p.pts.length * 2) (fracs p.pts)) :
    Calls Tryz.prog 76 #[.agg (plC p a cap), .agg #[.int .i64 s.1, .bool s.2], .slice ac c.length cc, .int .i64 lim] w fun e w' => e = .returned (.tuple #[.int .i64 (scfO p s c lim), .int .i64 (scfE p s c lim)]) ∧ Below w.heap.size w w' := by
  have HO := zH (fun W (hb : Below w.heap.size w W) => openLimit_any p s c lim a ac cap cc W hlen hlc (hrc.to hb) (hr.to hb))
  have HSC := zH (fun W (k : Nat) (hk : k ≤ 200) (h0 : opLE p s.1 c lim = 0) (hb : Below w.heap.size w W) => scaled_any c k ac cc W (opLE_ok h0).1.2.2.1 (opLE_ok h0).1.2.2.2 ⟨by omega, by omega⟩ (hrc.to hb))
  have HWT := zH (fun W al cl am cm (k : Nat) (hk : k ≤ 200) (m : List (Int × Int)) (hm : sclQ k c = some m) (h0 : opLE p s.1 c lim = 0) hrl hrm => witness_any p s m lim a al am cap cl cm W (opLE_ok h0).1.1 (opLE_ok h0).1.2.1 ⟨by rw [(sclQ_len hm).1]; exact (opLE_ok h0).1.2.2.1, scl_ok ⟨by omega, by omega⟩ hm (opLE_ok h0).1.2.2.2⟩ (opLE_ok h0).2 hrl hrm)
  have HLM : Hid (∀ (k : Nat) m, sclQ k c = some m → m.length = c.length) := zH (fun k m h => (sclQ_len h).1)
  have HGN := zH (fun (k : Nat) (hk : k ≤ 200) h => scF_stop (scG p s lim c) hk (scG_none h))
  have HGS := zH (fun (k : Nat) (hk : k ≤ 200) m (h : sclQ k c = some m) (h2 : (witA p lim (tks p m [(s, [])])).isNone = false) => scF_stop (scG p s lim c) hk ((scG_some h).trans (prm_wit.trans h2)))
  have HGG := zH (fun (k : Nat) (hk : k ≤ 200) m (h : sclQ k c = some m) (h2 : (witA p lim (tks p m [(s, [])])).isNone = true) => scF_go (scG p s lim c) hk ((scG_some h).trans (prm_wit.trans h2)))
  have HG0 : Hid (scK p s c lim = scF (scG p s lim c) 0 (201 - 0)) := zH rfl
  have HGE : Hid (scF (scG p s lim c) 201 (201 - 201) = 201) := zH rfl
  have HP : Hid (scfO p s c lim = if opLE p s.1 c lim = 0 then max 0 ((scK p s c lim : Int) - 1) else 0) := zH rfl
  have HR : Hid (scfE p s c lim = if opLE p s.1 c lim = 0 then unl (decide ((0 : Int) < (scK p s c lim : Int))) 12 else opLE p s.1 c lim) := zH rfl
  obtain ⟨ro, hro⟩ : ∃ e, scfO p s c lim = e := ⟨_, rfl⟩
  obtain ⟨re, hre⟩ : ∃ e, scfE p s c lim = e := ⟨_, rfl⟩
  obtain ⟨K, hK⟩ : ∃ e, scK p s c lim = e := ⟨_, rfl⟩
  rw [hro, hK] at HP
  rw [hre, hK] at HR
  rw [hro, hre]
  rw [hK] at HG0
  clear hro hre hK
  obtain ⟨oe, hoe⟩ : ∃ e, opLE p s.1 c lim = e := ⟨_, rfl⟩
  rw [hoe] at HO HSC HWT HP HR
  obtain ⟨n, hn⟩ : ∃ n, c.length = n := ⟨_, rfl⟩
  rw [hn] at HO HSC HLM ⊢
  obtain ⟨g, hg⟩ : ∃ g, scG p s lim c = g := ⟨_, rfl⟩
  rw [hg] at HGN HGS HGG HG0 HGE
  clear hoe hr hrc hlen hlc hn hg
  obtain ⟨s1, sr⟩ := s
  unfold SclPost at HSC
  unfold WtPost at HWT
  dsimp only at HO HSC HWT ⊢
  by_cases h0 : oe = 0
  · subst h0
    rw [if_pos rfl] at HP HR
    replace HSC := zH (fun W k hk hb => HSC.out W k hk rfl hb)
    replace HWT := zH (fun W al cl am cm k hk m hm hrl hrm => HWT.out W al cl am cm k hk m hm rfl hrl hrm)
    go_enter Tryz.func76, Tryz.ntmps76
    go_wp2_with fail
    refine (HO.out _ (bAlloc (bAlloc (bSelf w) _) _)).mono ?_
    intro e w1 hpost
    obtain ⟨al, cl, rfl, hcl, hrd, hb, hfr⟩ := hpost.ex
    have K1 : Hid (Blk w1 (w.heap.size + 1) #[.int .i64 s1, .bool sr]) := zH ((Blk.newAt _ _ _ (by simp)).to hb)
    have HB := zH (bThen (bAlloc (bAlloc (bSelf w) _) _) hb)
    have HRD := zH hrd
    clear hb hrd hpost hfr HO
    go_wp2_with fail
    obtain ⟨w2, hw2⟩ : ∃ u, w1.alloc (.cells (plL p a cap al cl) 170) = u := ⟨_, rfl⟩
    rw [hw2]
    have hb : Below w1.heap.size w1 w2 := by subst hw2; exact bAlloc (bSelf _) _
    have K10 : Hid (Blk w2 w1.heap.size (plL p a cap al cl)) := by subst hw2; exact zH (Blk.new _ _ _)
    replace K1 := zH (K1.out.to hb)
    replace HRD := zH (HRD.out.to hb)
    replace HB := zH (bThen HB.out hb)
    clear hb hw2
    go_loopw [12, 13, 14, 15, 16] (fun s12 _ _ _ _ wr => ∃ k : Nat, s12 = .int .i64 k ∧ k ≤ 201 ∧ Hid (K = scF g k (201 - k)) ∧ Hid (Below w2.heap.size w2 wr)) (fun s12 _ _ _ _ _ => 201 - (intOf s12).toNat)
    case atStart => exact ⟨0, rfl, Nat.zero_le _, HG0, zH (bSelf w2)⟩
    case round =>
      obtain ⟨k, rfl, hk, HQ, HR0⟩ := hrel
      by_cases hlt : k ≤ 200
      · have hlt' : (k : Int) ≤ 200 := by omega
        have HS1 := zH (fun W hb => HSC.out W k hlt hb)
        have HN1 := zH (fun h => HQ.out.trans (HGN.out k hlt h))
        have HS2 := zH (fun m h h2 => HQ.out.trans (HGS.out k hlt m h h2))
        have HG2 := zH (fun m h h2 => HQ.out.trans (HGG.out k hlt m h h2))
        have HW1 := zH (fun W al cl am cm m hm hrl hrm => HWT.out W al cl am cm k hlt m hm hrl hrm)
        have HL1 := zH (fun m h => HLM.out k m h)
        obtain ⟨so, hso⟩ : ∃ o, sclQ (k : Int) c = o := ⟨_, rfl⟩
        rw [hso] at HS1 HN1 HS2 HG2 HW1 HL1
        clear hso HSC HGN HGS HGG HWT HLM HQ
        go_wp2_with fail
        refine (HS1.out _ (bThen HB.out HR0.out)).mono ?_
        rintro e w3 ⟨am, cm, rfl, hcm, hrm, hb⟩
        replace HR0 := zH (bThen HR0.out hb)
        have HRM := zH hrm
        clear hb hrm HS1
        cases so with
        | none =>
          obtain rfl : K = k := HN1.out rfl
          dsimp only [Option.getD_none, Option.isSome_none]
          have hK3 : K = 0 ∨ 1 ≤ K := by omega
          rcases hK3 with hz | hz
          · subst hz
            go_wp2_with (go_at_call 94; refine (oUnless_any _ _ _).mono ?_; rintro e w' ⟨rfl, rfl⟩)
            refine bodyPost_ret (results_tmp2 rfl _ _ _) rfl ?_
            exact ⟨by rw [HP.out, HR.out]; rfl, bThen HB.out HR0.out⟩
          · obtain ⟨x, hx⟩ : ∃ x : Int, (K : Int) = x + 1 := ⟨(K : Int) - 1, by omega⟩
            have e3 : 0 ≤ x := by omega
            have e4 : 0 < x + 1 := by omega
            have e5 : x + 1 - 1 = x := by omega
            have e6 : x ≤ 200 := by omega
            have HP2 : Hid (ro = max 0 x) := zH (by rw [HP.out, hx, e5])
            have HP3 : Hid (ro = x) := zH (by rw [HP2.out]; omega)
            have HR2 : Hid (re = unl true 12) := zH (by rw [HR.out, hx, decide_eq_true e4])
            rw [hx]
            clear HP HR hx
            go_wp2_with (go_at_call 94; refine (oUnless_any _ _ _).mono ?_; rintro e w' ⟨rfl, rfl⟩)
            all_goals
              refine bodyPost_ret (results_tmp2 rfl _ _ _) rfl ?_
              exact ⟨by first | (rw [HP2.out, HR2.out]; rfl) | (rw [HP3.out, HR2.out]; rfl) | (rw [HP3.out, HR2.out, show x = 0 by omega]; rfl), bThen HB.out HR0.out⟩
        | some m =>
          have HW2 := zH (fun W al cl am cm hrl hrm => HW1.out W al cl am cm m rfl hrl hrm)
          have HS3 := zH (fun h2 => HS2.out m rfl h2)
          have HG3 := zH (fun h2 => HG2.out m rfl h2)
          have hml := HL1.out m rfl
          dsimp only [Option.getD_some, Option.isSome_some] at HRM hcm ⊢
          obtain ⟨wi, hwi⟩ : ∃ o, witA p lim (tks p m [((s1, sr), [])]) = o := ⟨_, rfl⟩
          rw [hwi] at HW2 HS3 HG3
          rw [hml] at HW2 HRM hcm ⊢
          clear HW1 HS2 HG2 HN1 HL1 hwi hml
          have K10x := zH (K10.out.to HR0.out)
          have k10 := K10x.out.2.1
          have k1 := (K1.out.to HR0.out).2.1
          go_wp2_with fail
          clear k10 k1
          refine (HW2.out _ al cl am cm (HRD.out.to HR0.out) HRM.out).mono ?_
          rintro e w4 ⟨q, c', rfl, hc', hq, hb, hno⟩
          replace HR0 := zH (bThen HR0.out hb)
          clear hb hq hno HW2 HRM K10x
          cases wi with
          | some o =>
            obtain rfl : K = k := HS3.out rfl
            dsimp only [Option.getD_some, Option.isSome_some]
            have hK3 : K = 0 ∨ 1 ≤ K := by omega
            rcases hK3 with hz | hz
            · subst hz
              go_wp2_with (go_at_call 94; refine (oUnless_any _ _ _).mono ?_; rintro e w' ⟨rfl, rfl⟩)
              refine bodyPost_ret (results_tmp2 rfl _ _ _) rfl ?_
              exact ⟨by rw [HP.out, HR.out]; rfl, bThen HB.out HR0.out⟩
            · obtain ⟨x, hx⟩ : ∃ x : Int, (K : Int) = x + 1 := ⟨(K : Int) - 1, by omega⟩
              have e3 : 0 ≤ x := by omega
              have e4 : 0 < x + 1 := by omega
              have e5 : x + 1 - 1 = x := by omega
              have e6 : x ≤ 200 := by omega
              have HP2 : Hid (ro = max 0 x) := zH (by rw [HP.out, hx, e5])
              have HP3 : Hid (ro = x) := zH (by rw [HP2.out]; omega)
              have HR2 : Hid (re = unl true 12) := zH (by rw [HR.out, hx, decide_eq_true e4])
              rw [hx]
              clear HP HR hx
              go_wp2_with (go_at_call 94; refine (oUnless_any _ _ _).mono ?_; rintro e w' ⟨rfl, rfl⟩)
              all_goals
                refine bodyPost_ret (results_tmp2 rfl _ _ _) rfl ?_
                exact ⟨by first | (rw [HP2.out, HR2.out]; rfl) | (rw [HP3.out, HR2.out]; rfl) | (rw [HP3.out, HR2.out, show x = 0 by omega]; rfl), bThen HB.out HR0.out⟩
          | none =>
            have HQ2 := zH (HG3.out rfl)
            dsimp only [Option.getD_none, Option.isSome_none]
            clear HS3 HG3
            go_wp2_with fail
            go_roundw
            case rel => exact ⟨k + 1, by go_num, by omega, HQ2, HR0⟩
            case measure => simp [intOf]; omega
      · obtain rfl : k = 201 := by omega
        obtain rfl : K = 201 := HQ.out.trans HGE.out
        clear HSC HGN HGS HGG HWT HLM HQ
        go_wp2_with (go_at_call 94; refine (oUnless_any _ _ _).mono ?_; rintro e w' ⟨rfl, rfl⟩)
        refine bodyPost_ret (results_tmp2 rfl _ _ _) rfl ?_
        exact ⟨by rw [HP.out, HR.out]; rfl, bThen HB.out HR0.out⟩
  · have h0' : (oe != 0) = true := by simpa using h0
    rw [if_neg h0] at HP HR
    obtain rfl : ro = 0 := HP.out
    obtain rfl : re = oe := HR.out
    clear h0 HSC HWT HGN HGS HGG HLM HG0 HGE
    go_enter Tryz.func76, Tryz.ntmps76
    go_wp2_with fail
    refine (HO.out _ (bAlloc (bAlloc (bSelf w) _) _)).mono ?_
    intro e w1 hpost
    obtain ⟨al, cl, rfl, hcl, hrd, hb, hfr⟩ := hpost.ex
    have HB := zH (bThen (bAlloc (bAlloc (bSelf w) _) _) hb)
    clear hb hrd hpost hfr HO
    go_wp2_with fail
    refine bodyPost_ret (results_tmp2 rfl _ _ _) rfl ?_
    exact ⟨rfl, bAlloc HB.out _⟩
end
end Go.Proofs.YtjfedpblkejmkaaGreat
