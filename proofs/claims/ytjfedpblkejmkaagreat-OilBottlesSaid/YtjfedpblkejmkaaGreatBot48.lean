/-
  Texts of this claim, in their build order: OM31 OM32 OR30 OM25 OR19 OR20 OR21 OW4 OW8 OR25 OR31 OW10 OL13.
-/
import Derived.Test.YtjfedpblkejmkaaGreatBot46
import Derived.Test.YtjfedpblkejmkaaGreatBot47
import Derived.Test.YtjfedpblkejmkaaGreatBot33
import Derived.Test.YtjfedpblkejmkaaGreatBot38
import Derived.Test.YtjfedpblkejmkaaGreatBot35
import Derived.Test.YtjfedpblkejmkaaGreatBot27
import Derived.Test.YtjfedpblkejmkaaGreatBot17
import Derived.Test.YtjfedpblkejmkaaGreatBot43
import Derived.Test.YtjfedpblkejmkaaGreatBot24
import Derived.Test.YtjfedpblkejmkaaGreatBot23
import Derived.Test.YtjfedpblkejmkaaGreatBot31
import Derived.Test.YtjfedpblkejmkaaGreatBot40
import Derived.Test.YtjfedpblkejmkaaGreatBot45
import Derived.Test.YtjfedpblkejmkaaGreatBot44
import Derived.Deep.CutBlock
import Derived.Test.YtjfedpblkejmkaaGreatBot0

namespace Go.Proofs.YtjfedpblkejmkaaGreat
section
open Go.RowKit
attribute [local go_sem] Oper.semAt_some

/-- The plant with so many bottles. -/
def btPl (p : Plt) (k : Int) : Plt := ⟨btlQ k p.pts, p.pump, p.on, p.off⟩
/-- With so many bottles the class is permitted from full bottles on. -/
def fwG (p : Plt) (c : List (Int × Int)) (lim : Int) (k : Nat) : Bool := bokB k p.pts && prmR (btPl p k) lim [(capV (btlQ k p.pts), false)] c
/-- The fewest from k on, of m. -/
def fwF (g : Nat → Bool) : Nat → Nat → Option Nat
  | _, 0 => none
  | k, m + 1 => if g k then some k else fwF g (k + 1) m
def fwK (p : Plt) (c : List (Int × Int)) (lim : Int) : Option Nat := fwF (fwG p c lim) 1 5
theorem fwF_none {g : Nat → Bool} : ∀ {m k : Nat}, (∀ j, k ≤ j → g j = false) → fwF g k m = none
  | 0, k, _ => rfl
  | m + 1, k, h => by
    show (if g k then some k else fwF g (k + 1) m) = none
    rw [if_neg (by rw [h k (Nat.le_refl _)]; decide)]
    exact fwF_none (fun j hj => h j (by omega))
theorem fwF_yes {g : Nat → Bool} {k : Nat} (hk : k ≤ 5) (h : g k = true) : fwF g k (6 - k) = some k := by
  obtain ⟨m, hm⟩ : ∃ m, 6 - k = m + 1 := ⟨5 - k, by omega⟩
  rw [hm]
  show (if g k then some k else fwF g (k + 1) m) = _
  rw [if_pos h]
theorem fwF_no {g : Nat → Bool} {k : Nat} (hk : k ≤ 5) (h : g k = false) : fwF g k (6 - k) = fwF g (k + 1) (6 - (k + 1)) := by
  obtain ⟨m, hm⟩ : ∃ m, 6 - k = m + 1 := ⟨5 - k, by omega⟩
  rw [hm, show 6 - (k + 1) = m by omega]
  show (if g k then some k else fwF g (k + 1) m) = _
  rw [if_neg (by rw [h]; decide)]
theorem bok_up {l : List (Int × Int)} (h : PtsOk l) {j k : Nat} (hjk : k ≤ j) (hb : bokB k l = false) : bokB j l = false := by
  unfold bokB at hb ⊢
  rw [decide_eq_false_iff_not] at hb ⊢
  rw [btl_cap] at hb ⊢
  have h1 := (h.vol (l.length - 1) (by have := h.two; omega)).1
  have h2 := Int.mul_le_mul_of_nonneg_left (show (k : Int) ≤ (j : Int) by omega) h1
  omega
theorem fw_stop {p : Plt} (hp : PtsOk p.pts) {c : List (Int × Int)} {lim : Int} {k : Nat} (hb : bokB k p.pts = false) : fwF (fwG p c lim) k (6 - k) = none := fwF_none (fun j hj => by unfold fwG; rw [bok_up hp hj hb]; rfl)
theorem bt_pok {p : Plt} (hp : PltOk p) {k : Int} (hk : 1 ≤ k) (hb : bokB k p.pts = true) : PltOk (btPl p k) :=
  ⟨btl_ok hp.pts hk (by unfold bokB at hb; exact of_decide_eq_true hb), hp.pump, hp.on, hp.off, hp.ord⟩
theorem fwG_val {p : Plt} {c : List (Int × Int)} {lim : Int} {k : Nat} (hb : bokB k p.pts = true) : fwG p c lim k = (witA (btPl p k) lim (tks (btPl p k) c [((capV (btlQ k p.pts), false), [])])).isNone := by
  unfold fwG
  rw [hb, Bool.true_and, prm_wit]
/-- FewestFor's error and answer. -/
def fwE1 (p : Plt) (c : List (Int × Int)) (lim : Int) : Int := firstE [(chP p).2, (chCl c).2, unl (wthn lim 0 1000) 2]
def fwE (p : Plt) (c : List (Int × Int)) (lim : Int) : Int := if fwE1 p c lim = 0 then unl (fwK p c lim).isSome 12 else fwE1 p c lim
def fwO (p : Plt) (c : List (Int × Int)) (lim : Int) : Int := if fwE1 p c lim = 0 then (((fwK p c lim).getD 0 : Nat) : Int) else 0
theorem first3_ok {a b c : Int} (h : firstE [a, b, c] = 0) : a = 0 ∧ b = 0 ∧ c = 0 := by
  unfold firstE at h
  split at h
  · rename_i ha
    obtain ⟨h1, h2⟩ := firstE2.1 h
    exact ⟨ha, h1, h2⟩
  · contradiction

set_option maxHeartbeats 6400000 in
set_option maxRecDepth 100000 in
theorem FewestFor_any (p : Plt) (c : List (Int × Int)) (lim : Int) (a ac : Option Addr) (cap cc : Nat) (w : World) (hlen : p.pts.length ≤ 1000) (hlc : c.length ≤ maxLen) (hrc : Reads w ac (c.length * 2) (fracs c)) (hr : Reads w a (p.pts.length * 2) (fracs p.pts)) :
    Calls Tryz.prog 83 #[.agg (plC p a cap), .slice ac c.length cc, .int .i64 lim] w fun e w' => e = .returned (.tuple #[.int .i64 (fwO p c lim), .int .i64 (fwE p c lim)]) ∧ Below w.heap.size w w' := by
  have HCK := zH (fun W (hb : Below w.heap.size w W) => CheckPlant_any p a cap W (by omega) (hr.to hb))
  have HCL := zH (fun W (hb : Below w.heap.size w W) => classErr_any c ac cc W hlc (hrc.to hb))
  have HBT := zH (fun W (k : Nat) (hk : 1 ≤ k ∧ k ≤ 5) (h0 : fwE1 p c lim = 0) (hb : Below w.heap.size w W) => bottles_any p (k : Int) a cap W (chP_ok (first3_ok h0).1).pts ⟨by omega, by omega⟩ (hr.to hb))
  have HOP := zH (fun W (k : Nat) (a1 : Option Addr) (c1 : Nat) (h0 : fwE1 p c lim = 0) (h1 : Reads W a1 (p.pts.length * 2) (fracs (btlQ k p.pts))) => (show Calls Tryz.prog 136 #[.agg #[.slice a1 p.pts.length c1, .int .i64 p.pump, .int .i64 p.on, .int .i64 p.off]] W (fun e w' => ∃ al cl, e = .returned (.tuple #[.agg #[.slice a1 p.pts.length c1, .int .i64 p.pump, .int .i64 p.on, .int .i64 p.off, .slice al p.pts.length cl], .int .i64 (chP (btPl p k)).2]) ∧ p.pts.length ≤ cl ∧ Reads w' al (p.pts.length * 2) (fracs (btlQ k p.pts)) ∧ Below W.heap.size W w') from by
    have h2 := open_any (btPl p k) a1 c1 W (by show (btlQ k p.pts).length ≤ 1000; rw [btl_len]; exact hlen) (by show Reads W a1 ((btlQ k p.pts).length * 2) _; rw [btl_len]; exact h1)
    unfold OpnPost plC plL btPl at h2
    dsimp only at h2
    rw [btl_len] at h2
    refine h2.mono ?_
    rintro e w' ⟨al, cl, rfl, x1, x2, x3, -⟩
    exact ⟨al, cl, rfl, x1, x2, x3⟩))
  have HCA := zH (fun W (k : Nat) (a1 al : Option Addr) (c1 cl : Nat) (h0 : fwE1 p c lim = 0) (h1 : Reads W al (p.pts.length * 2) (fracs (btlQ k p.pts))) => by
    have h2 := capacity_any (btPl p k) a1 al c1 cl W (by show 0 < (btlQ k p.pts).length; rw [btl_len]; have := (chP_ok (first3_ok h0).1).pts.two; omega) (by show (btlQ k p.pts).length ≤ 100000; rw [btl_len]; omega) (by show Reads W al ((btlQ k p.pts).length * 2) _; rw [btl_len]; exact h1)
    unfold plL btPl at h2
    dsimp only at h2
    rw [btl_len] at h2
    exact h2)
  have HWT := zH (fun W (k : Nat) (hk : 1 ≤ k ∧ k ≤ 5) (a1 al : Option Addr) (c1 cl : Nat) (h0 : fwE1 p c lim = 0) (hbk : bokB k p.pts = true) (hb : Below w.heap.size w W) (h1 : Reads W al (p.pts.length * 2) (fracs (btlQ k p.pts))) => by
    have hpk := bt_pok (chP_ok (first3_ok h0).1) (k := (k : Int)) (by omega) hbk
    have hlm := wthn_iff.1 ((unlZ (by decide)).1 (first3_ok h0).2.2)
    have h2 := witness_any (btPl p k) (capV (btlQ k p.pts), false) c lim a1 al ac c1 cl cc W hpk ⟨by have := cap_pos hpk; show (0 : Int) ≤ capV (btPl p k).pts; omega, Int.le_refl _⟩ (chCl_ok (first3_ok h0).2.1) ⟨by omega, by omega⟩ (by show Reads W al ((btlQ k p.pts).length * 2) _; rw [btl_len]; exact h1) (hrc.to hb)
    unfold plL WtPost at h2
    rw [show (btPl p k).pts.length = p.pts.length from btl_len] at h2
    exact h2)
  have HST := zH (fun (k : Nat) (h0 : fwE1 p c lim = 0) (hb : bokB k p.pts = false) => fw_stop (chP_ok (first3_ok h0).1).pts (c := c) (lim := lim) hb)
  have HYE := zH (fun (k : Nat) (hk : k ≤ 5) (hb : bokB k p.pts = true) (h : (witA (btPl p k) lim (tks (btPl p k) c [((capV (btlQ k p.pts), false), [])])).isNone = true) => fwF_yes (g := fwG p c lim) hk ((fwG_val hb).trans h))
  have HNO := zH (fun (k : Nat) (hk : k ≤ 5) (hb : bokB k p.pts = true) (h : (witA (btPl p k) lim (tks (btPl p k) c [((capV (btlQ k p.pts), false), [])])).isNone = false) => fwF_no (g := fwG p c lim) hk ((fwG_val hb).trans h))
  have HP : Hid (fwO p c lim = if fwE1 p c lim = 0 then (((fwK p c lim).getD 0 : Nat) : Int) else 0) := zH rfl
  have HR : Hid (fwE p c lim = if fwE1 p c lim = 0 then unl (fwK p c lim).isSome 12 else fwE1 p c lim) := zH rfl
  have HF3 : Hid (firstE [(chP p).2, (chCl c).2, unl (wthn lim 0 1000) 2] = fwE1 p c lim) := zH rfl
  have HK0 : Hid (fwK p c lim = fwF (fwG p c lim) 1 (6 - 1)) := zH rfl
  have HKE : Hid (fwF (fwG p c lim) 6 (6 - 6) = none) := zH rfl
  obtain ⟨fe, hfe⟩ : ∃ x, fwE1 p c lim = x := ⟨_, rfl⟩
  obtain ⟨ro, hro⟩ : ∃ x, fwO p c lim = x := ⟨_, rfl⟩
  obtain ⟨re, hre⟩ : ∃ x, fwE p c lim = x := ⟨_, rfl⟩
  obtain ⟨K, hK⟩ : ∃ x, fwK p c lim = x := ⟨_, rfl⟩
  obtain ⟨G, hG⟩ : ∃ x, fwG p c lim = x := ⟨_, rfl⟩
  obtain ⟨ch, hch⟩ : ∃ x, chP p = x := ⟨_, rfl⟩
  obtain ⟨ce, hce⟩ : ∃ x, (chCl c).2 = x := ⟨_, rfl⟩
  obtain ⟨wb, hwb⟩ : ∃ x, wthn lim 0 1000 = x := ⟨_, rfl⟩
  have HPR := zH (fun W => by have := isPressure_any lim W; rw [hwb] at this; exact this)
  rw [hfe] at HBT HOP HCA HWT HST HP HR HF3
  rw [hro] at HP ⊢
  rw [hre] at HR ⊢
  rw [hK] at HP HR HK0
  rw [hG] at HST HYE HNO HK0 HKE
  rw [hch] at HCK HF3
  rw [hce] at HCL HF3
  rw [hwb] at HF3
  unfold BtPost at HBT
  obtain ⟨n, hn⟩ : ∃ n, c.length = n := ⟨_, rfl⟩
  obtain ⟨m, hm⟩ : ∃ n, p.pts.length = n := ⟨_, rfl⟩
  unfold plC at HCK HBT ⊢
  rw [hn] at HCL HWT ⊢
  rw [hm] at HCK HBT HOP HCA HWT ⊢
  clear hr hrc hlen hlc hfe hro hre hK hG hch hce hwb hn hm
  have HF3' := zH (fun W b h => by have := oFirst3_new ch.2 ce (unl wb 2) W b h; rw [HF3.out] at this; exact this)
  obtain ⟨c1, c2⟩ := ch
  dsimp only at HCK HBT HOP HCA HWT HF3'
  go_enter Tryz.func83, Tryz.ntmps83
  go_wp2_with fail
  obtain ⟨W, hW⟩ : ∃ W, w.alloc (.cells #[.slice a m cap, .int .i64 p.pump, .int .i64 p.on, .int .i64 p.off] 44) = W := ⟨_, rfl⟩
  rw [hW]
  have K3 : Hid (Blk W w.heap.size #[.slice a m cap, .int .i64 p.pump, .int .i64 p.on, .int .i64 p.off]) := by subst hW; exact zH (Blk.new _ _ _)
  have HB : Hid (Below w.heap.size w W) := by subst hW; exact zH (bAlloc (bSelf w) _)
  clear hW
  refine (HCK.out _ HB.out).mono ?_
  rintro e w1 ⟨rfl, hb⟩
  replace K3 := zH (K3.out.to hb)
  replace HB := zH (bThen HB.out hb)
  clear hb HCK
  go_wp2_with fail
  refine (HCL.out _ HB.out).mono ?_
  rintro e w2 ⟨rfl, hb⟩
  replace K3 := zH (K3.out.to hb)
  replace HB := zH (bThen HB.out hb)
  clear hb HCL
  have HB3 : Hid (Below w.heap.size w (w2.alloc (.cells #[.int .i64 c2, .int .i64 ce, .int .i64 (unl wb 2)] 29))) := zH (bAlloc HB.out _)
  have K33 : Hid (Blk (w2.alloc (.cells #[.int .i64 c2, .int .i64 ce, .int .i64 (unl wb 2)] 29)) w.heap.size #[.slice a m cap, .int .i64 p.pump, .int .i64 p.on, .int .i64 p.off]) := zH (K3.out.alloc _)
  by_cases h0 : fe = 0
  case neg =>
    have h0' : (fe != 0) = true := by simpa using h0
    rw [if_neg h0] at HP HR
    have hp2 := HP.out
    have hr2 := HR.out
    have HP2 := zH hp2
    have HR2 := zH hr2
    clear HP HR hp2 hr2 h0
    go_wp2_with (first | (go_at_call 135; refine (HPR.out _).mono ?_; rintro e w' ⟨rfl, rfl⟩) | (go_at_call 94; refine (oUnless_any _ _ _).mono ?_; rintro e w' ⟨rfl, rfl⟩) | (go_at_call 92; refine (HF3'.out _ _ (by simp)).mono ?_; rintro e w' ⟨rfl, rfl⟩))
    refine bodyPost_ret (results_tmp2 rfl _ _ _) rfl ?_
    exact ⟨by rw [HP2.out, HR2.out]; rfl, HB3.out⟩
  subst h0
  rw [if_pos rfl] at HP HR
  replace HBT := zH (fun W k hk hb => HBT.out W k hk (by first | rfl | trivial) hb)
  replace HOP := zH (fun W k a1 c1 h1 => HOP.out W k a1 c1 (by first | rfl | trivial) h1)
  replace HCA := zH (fun W k a1 al c1 cl h1 => HCA.out W k a1 al c1 cl (by first | rfl | trivial) h1)
  replace HWT := zH (fun W k hk a1 al c1 cl hbk hb h1 => HWT.out W k hk a1 al c1 cl (by first | rfl | trivial) hbk hb h1)
  replace HST := zH (fun k hb => HST.out k (by first | rfl | trivial) hb)
  go_wp2_with (first | (go_at_call 135; refine (HPR.out _).mono ?_; rintro e w' ⟨rfl, rfl⟩) | (go_at_call 94; refine (oUnless_any _ _ _).mono ?_; rintro e w' ⟨rfl, rfl⟩) | (go_at_call 92; refine (HF3'.out _ _ (by simp)).mono ?_; rintro e w' ⟨rfl, rfl⟩))
  clear HPR HF3' HF3 K3 HB
  obtain ⟨y, hy⟩ : ∃ u, w2.alloc (.cells #[.int .i64 c2, .int .i64 ce, .int .i64 (unl wb 2)] 29) = u := ⟨_, rfl⟩
  rw [hy] at HB3 K33 ⊢
  clear hy
  go_loopw [10, 11, 12, 13, 14, 15, 16] (fun s10 _ _ _ _ _ _ wr => ∃ k : Nat, s10 = .int .i64 k ∧ 1 ≤ k ∧ k ≤ 6 ∧ Hid (K = fwF G k (6 - k)) ∧ Hid (Below y.heap.size y wr)) (fun s10 _ _ _ _ _ _ _ => 6 - (intOf s10).toNat)
  case atStart => exact ⟨1, rfl, Nat.le_refl _, by omega, HK0, zH (bSelf y)⟩
  case round =>
    clear HK0
    obtain ⟨k, rfl, hk1, hk, HQ, HR0⟩ := hrel
    by_cases hlt : k ≤ 5
    · have hlt' : (k : Int) ≤ 5 := by omega
      have HB1 := zH (fun W hb => HBT.out W k ⟨hk1, hlt⟩ hb)
      have HO1 := zH (fun W a1 c1 h1 => HOP.out W k a1 c1 h1)
      have HC1 := zH (fun W a1 al c1 cl h1 => HCA.out W k a1 al c1 cl h1)
      have HW1 := zH (fun W a1 al c1 cl hbk hb h1 => HWT.out W k ⟨hk1, hlt⟩ a1 al c1 cl hbk hb h1)
      have HS1 := zH (fun hb => HQ.out.trans (HST.out k hb))
      have HY1 := zH (fun hb h => HQ.out.trans (HYE.out k hlt hb h))
      have HN1 := zH (fun hb h => HQ.out.trans (HNO.out k hlt hb h))
      obtain ⟨bo, hbo⟩ : ∃ b, bokB k p.pts = b := ⟨_, rfl⟩
      rw [hbo] at HB1 HW1 HS1 HY1 HN1
      obtain ⟨C, hC⟩ : ∃ b, capV (btlQ k p.pts) = b := ⟨_, rfl⟩
      rw [hC] at HC1 HW1 HY1 HN1
      obtain ⟨wi, hwi⟩ : ∃ b, witA (btPl p k) lim (tks (btPl p k) c [((C, false), [])]) = b := ⟨_, rfl⟩
      rw [hwi] at HW1 HY1 HN1
      dsimp only [btPl] at HW1
      have K3a := zH (K33.out.to HR0.out)
      clear hbo hC hwi HBT HOP HCA HWT HST HYE HNO HQ
      obtain ⟨-, k3, -⟩ := K3a.out
      go_wp2_with fail
      clear k3
      refine (HB1.out _ (bThen HB3.out HR0.out)).mono ?_
      rintro e w4 ⟨a1, d1, rfl, hd1, hrd, hb, -⟩
      replace HR0 := zH (bThen HR0.out hb)
      have HRD := zH hrd
      clear hb hrd HB1 K3a
      cases bo with
      | false =>
        obtain rfl : K = none := HS1.out rfl
        go_wp2_with fail
        refine bodyPost_ret (results_tmp2 rfl _ _ _) rfl ?_
        exact ⟨by rw [HP.out, HR.out]; rfl, bThen HB3.out ((bAlloc HR0.out _))⟩
      | true =>
        replace HW1 := zH (fun W a1 al c1 cl hb h1 => HW1.out W a1 al c1 cl rfl hb h1)
        replace HY1 := zH (fun h => HY1.out rfl h)
        replace HN1 := zH (fun h => HN1.out rfl h)
        clear HS1
        go_wp2_with fail
        obtain ⟨w5, hw5⟩ : ∃ u, w4.alloc (.cells #[.slice a1 m d1, .int .i64 p.pump, .int .i64 p.on, .int .i64 p.off] 44) = u := ⟨_, rfl⟩
        rw [hw5]
        have hb : Below w4.heap.size w4 w5 := by subst hw5; exact bAlloc (bSelf _) _
        replace HR0 := zH (bThen HR0.out hb)
        replace HRD := zH (HRD.out.to hb)
        clear hb hw5
        refine (HO1.out _ _ _ HRD.out).mono ?_
        rintro e w6 ⟨al, cl, rfl, hcl, hrl, hb⟩
        replace HR0 := zH (bThen HR0.out hb)
        have HRL := zH hrl
        clear hb hrl HO1 HRD
        go_wp2_with fail
        obtain ⟨w7, hw7⟩ : ∃ u, w6.alloc (.cells #[.slice a1 m d1, .int .i64 p.pump, .int .i64 p.on, .int .i64 p.off, .slice al m cl] 170) = u := ⟨_, rfl⟩
        rw [hw7]
        have hb : Below w6.heap.size w6 w7 := by subst hw7; exact bAlloc (bSelf _) _
        have K13 : Hid (Blk w7 w6.heap.size #[.slice a1 m d1, .int .i64 p.pump, .int .i64 p.on, .int .i64 p.off, .slice al m cl]) := by subst hw7; exact zH (Blk.new _ _ _)
        replace HR0 := zH (bThen HR0.out hb)
        replace HRL := zH (HRL.out.to hb)
        clear hb hw7
        refine wp_region_tree (by kernel_rfl) (fun wd hwd => ?_)
        have T := zH hwd
        clear hwd
        refine WTq 0 ?_; apply Exists.intro; refine ⟨fun w1 hb1 => ?_, ?_⟩; (focus (((obtain ⟨-, k13, -⟩ := K13.out.to (T.out.trans hb1)); have hb1 := zH hb1; go_simp); (try (go_bits; try go_simp)); (try (rw [if_pos (by omega)]; try go_simp)); (first | done | (with_reducible rfl) | exact rfl)))
        simp only [Act.put, zzT, zzO, zzS]
        refine WTq 1 ?_; apply Exists.intro; refine ⟨fun w1 hb1 => ?_, ?_⟩; (focus (((obtain ⟨-, k13, -⟩ := K13.out.to (T.out.trans hb1)); have hb1 := zH hb1; go_simp); (try (go_bits; try go_simp)); (try (rw [if_pos (by omega)]; try go_simp)); (first | done | (with_reducible rfl) | exact rfl)))
        simp only [Act.put, zzT, zzO, zzS]
        refine WTq 4 ?_; apply Exists.intro; refine ⟨fun w1 hb1 => ?_, ?_⟩; (focus ((have hb1 := zH hb1; go_simp); (try (go_bits; try go_simp)); (try (rw [if_pos (by omega)]; try go_simp)); (first | done | (with_reducible rfl) | exact rfl)))
        simp only [Act.put, zzT, zzO, zzS]
        refine WTq 5 ?_; apply Exists.intro; refine ⟨fun w1 hb1 => ?_, ?_⟩; (focus ((have hb1 := zH hb1; go_simp); (try (go_bits; try go_simp)); (try (rw [if_pos (by omega)]; try go_simp)); (first | done | (with_reducible rfl) | exact rfl)))
        simp only [Act.put, zzT, zzO, zzS]
        refine WT_one 2 rfl (by kernel_rfl) ?_
        unfold stepT
        go_wp2_with fail
        refine (HC1.out _ _ _ _ _ (HRL.out.to T.out)).mono ?_
        rintro e u1 ⟨rfl, hb⟩
        have hbd := zH (hb.mono T.out.size)
        replace T := zH (bThen T.out hb)
        clear hb
        go_wp2_with fail
        refine ⟨hbd.out, ?_⟩
        clear hbd
        refine WT_yes 3 rfl (by kernel_rfl) (fun _ _ _ _ _ h => h) (by rfl) ⟨.agg #[.int .i64 C, .bool false], fun w1 hb1 => (by go_simp), ?_⟩
        simp only [Act.put, zzT, zzO, zzS]
        refine WT_one 6 rfl (by kernel_rfl) ?_
        unfold stepT
        go_wp2_with fail
        refine (HW1.out _ _ _ _ _ (bThen (bThen HB3.out HR0.out) T.out) (HRL.out.to T.out)).mono ?_
        rintro e u2 ⟨q, c', rfl, hc', hq, hb, hno⟩
        have hbd := zH (hb.mono T.out.size)
        replace T := zH (bThen T.out hb)
        clear hb hq hno
        go_wp2_with fail
        refine ⟨hbd.out, ?_⟩
        clear hbd
        refine WTq 7 ?_; apply Exists.intro; refine ⟨fun w1 hb1 => ?_, ?_⟩; (focus ((have hb1 := zH hb1; go_simp); (try (go_bits; try go_simp)); (try (rw [if_pos (by omega)]; try go_simp)); (first | done | (with_reducible rfl) | exact rfl)))
        simp only [Act.put, zzT, zzO, zzS]
        refine WTq 8 ?_; apply Exists.intro; refine ⟨fun w1 hb1 => ?_, ?_⟩; (focus ((have hb1 := zH hb1; go_simp); (try (go_bits; try go_simp)); (try (rw [if_pos (by omega)]; try go_simp)); (first | done | (with_reducible rfl) | exact rfl)))
        simp only [Act.put, zzT, zzO, zzS]
        refine WTq 9 ?_; apply Exists.intro; refine ⟨fun w1 hb1 => ?_, ?_⟩; (focus ((have hb1 := zH hb1; go_simp); (try (go_bits; try go_simp)); (try (rw [if_pos (by omega)]; try go_simp)); (first | done | (with_reducible rfl) | exact rfl)))
        simp only [Act.put, zzT, zzO, zzS]
        refine WTq 10 ?_; apply Exists.intro; refine ⟨fun w1 hb1 => ?_, ?_⟩; (focus ((have hb1 := zH hb1; go_simp); (try (go_bits; try go_simp)); (try (rw [if_pos (by omega)]; try go_simp)); (first | done | (with_reducible rfl) | exact rfl)))
        simp only [Act.put, zzT, zzO, zzS]
        refine WTq 11 ?_; apply Exists.intro; refine ⟨fun w1 hb1 => ?_, ?_⟩; (focus ((have hb1 := zH hb1; go_simp); (try (go_bits; try go_simp)); (try (rw [if_pos (by omega)]; try go_simp)); (first | done | (with_reducible rfl) | exact rfl)))
        simp only [Act.put, zzT, zzO, zzS]
        refine WT_done (by kernel_rfl) ?_
        replace HR0 := zH (bThen HR0.out T.out)
        clear T
        cases wi with
        | none =>
          obtain rfl : K = some k := HY1.out rfl
          dsimp only [Option.isSome_none, Option.getD_none]
          go_wp2_with fail
          refine bodyPost_ret (results_tmp2 rfl _ _ _) rfl ?_
          exact ⟨by rw [HP.out, HR.out]; rfl, bThen HB3.out HR0.out⟩
        | some o =>
          have HQ2 := zH (HN1.out rfl)
          dsimp only [Option.isSome_some, Option.getD_some]
          clear HY1 HN1
          go_wp2_with fail
          go_roundw
          case rel => exact ⟨k + 1, by go_num, by omega, by omega, HQ2, HR0⟩
          case measure => simp [intOf]; omega
    · obtain rfl : k = 6 := by omega
      obtain rfl : K = none := HQ.out.trans HKE.out
      go_wp2_with fail
      refine bodyPost_ret (results_tmp2 rfl _ _ _) rfl ?_
      exact ⟨by rw [HP.out, HR.out]; rfl, bThen HB3.out HR0.out⟩
end
section
open Go.RowKit
attribute [local go_sem] Oper.semAt_some

/-- Bottles' error and answer. -/
def bpE (p : Plt) (k : Int) : Int := if firstE [(chP p).2, unl (wthn k 1 5) 2] = 0 then unl (bokB k p.pts) 8 else firstE [(chP p).2, unl (wthn k 1 5) 2]
def bpO (p : Plt) (k : Int) : Plt := if bpE p k = 0 then btPl p k else ⟨[], 0, 0, 0⟩
def BpPost (q : Plt) (er : Int) (w : World) (e : Ending) (w' : World) : Prop :=
  ∃ a' c', e = .returned (.tuple #[.agg (plC q a' c'), .int .i64 er]) ∧ q.pts.length ≤ c' ∧ Reads w' a' (q.pts.length * 2) (fracs q.pts) ∧ Below w.heap.size w w'

set_option maxHeartbeats 6400000 in
set_option maxRecDepth 100000 in
theorem Bottles_any (p : Plt) (k : Int) (a : Option Addr) (cap : Nat) (w : World) (hlen : p.pts.length ≤ 1000) (hr : Reads w a (p.pts.length * 2) (fracs p.pts)) :
    Calls Tryz.prog 82 #[.agg (plC p a cap), .int .i64 k] w (BpPost (bpO p k) (bpE p k) w) := by
  have HCK := zH (fun W (hb : Below w.heap.size w W) => CheckPlant_any p a cap W (by omega) (hr.to hb))
  have HBT := zH (fun W (h0 : (chP p).2 = 0) (hk : 1 ≤ k ∧ k ≤ 5) (hb : Below w.heap.size w W) => bottles_any p k a cap W (chP_ok h0).pts hk (hr.to hb))
  have HE : Hid (bpE p k = if firstE [(chP p).2, unl (wthn k 1 5) 2] = 0 then unl (bokB k p.pts) 8 else firstE [(chP p).2, unl (wthn k 1 5) 2]) := zH rfl
  have HO : Hid (bpO p k = if bpE p k = 0 then btPl p k else ⟨[], 0, 0, 0⟩) := zH rfl
  have HZ : Hid (∀ w' e, bpO p k = ⟨[], 0, 0, 0⟩ → e = .returned (.tuple #[.agg #[.slice none 0 0, .int .i64 0, .int .i64 0, .int .i64 0], .int .i64 (bpE p k)]) → Below w.heap.size w w' → BpPost (bpO p k) (bpE p k) w e w') := zH (fun w' e h1 h2 h3 => by
    rw [h1, h2]
    exact ⟨none, 0, rfl, Nat.le_refl _, .inl rfl, h3⟩)
  have HY : Hid (∀ w' e a' c', bpO p k = btPl p k → e = .returned (.tuple #[.agg #[.slice a' p.pts.length c', .int .i64 p.pump, .int .i64 p.on, .int .i64 p.off], .int .i64 (bpE p k)]) → p.pts.length ≤ c' → Reads w' a' (p.pts.length * 2) (fracs (btlQ k p.pts)) → Below w.heap.size w w' → BpPost (bpO p k) (bpE p k) w e w') := zH (fun w' e a' c' h1 h2 h3 h4 h5 => by
    rw [h1, h2]
    refine ⟨a', c', ?_, by show (btlQ k p.pts).length ≤ c'; rw [btl_len]; exact h3, by show Reads w' a' ((btlQ k p.pts).length * 2) _; rw [btl_len]; exact h4, h5⟩
    unfold plC btPl
    dsimp only
    rw [btl_len])
  obtain ⟨PO, hPO⟩ : ∃ PO, BpPost (bpO p k) (bpE p k) w = PO := ⟨_, rfl⟩
  rw [hPO] at HZ HY ⊢
  obtain ⟨fe, hfe⟩ : ∃ x, firstE [(chP p).2, unl (wthn k 1 5) 2] = x := ⟨_, rfl⟩
  have HFE := zH hfe
  have HFI := zH (fun W b h => by have := oFirst2_new (chP p).2 (unl (wthn k 1 5) 2) W b h; rw [hfe] at this; exact this)
  have HF0 : Hid (fe = 0 → (chP p).2 = 0 ∧ (1 ≤ k ∧ k ≤ 5)) := zH (fun h => by
    rw [← hfe] at h
    obtain ⟨h1, h2⟩ := firstE2.1 h
    exact ⟨h1, wthn_iff.1 ((unlZ (by decide)).1 h2)⟩)
  rw [hfe] at HE
  obtain ⟨bo, hbo⟩ : ∃ x, bokB k p.pts = x := ⟨_, rfl⟩
  obtain ⟨er, her⟩ : ∃ x, bpE p k = x := ⟨_, rfl⟩
  obtain ⟨Q, hQ⟩ : ∃ x, bpO p k = x := ⟨_, rfl⟩
  obtain ⟨ch, hch⟩ : ∃ x, chP p = x := ⟨_, rfl⟩
  obtain ⟨wb, hwb⟩ : ∃ x, wthn k 1 5 = x := ⟨_, rfl⟩
  have HWI := zH (fun W => by have := oWithin_any k 1 5 W; rw [show (decide (1 ≤ k) && decide (k ≤ 5)) = wb from hwb] at this; exact this)
  unfold BtPost at HBT
  rw [hbo] at HE HBT
  rw [her] at HE HO HZ HY
  rw [hQ] at HO HZ HY
  rw [hch] at HCK HBT HFI HF0
  rw [hwb] at HFI
  obtain ⟨m, hm⟩ : ∃ n, p.pts.length = n := ⟨_, rfl⟩
  unfold plC at HCK HBT ⊢
  rw [hm] at HCK HBT HY ⊢
  clear hr hlen hfe hbo her hQ hch hwb hm hPO HFE
  obtain ⟨c1, c2⟩ := ch
  dsimp only at HCK HBT HFI HF0
  go_enter Tryz.func82, Tryz.ntmps82
  go_wp2_with fail
  obtain ⟨W, hW⟩ : ∃ W, (w.alloc (.cells #[.slice a m cap, .int .i64 p.pump, .int .i64 p.on, .int .i64 p.off] 44)).alloc (.cells #[.slice none 0 0, .int .i64 0, .int .i64 0, .int .i64 0] 44) = W := ⟨_, rfl⟩
  rw [hW]
  have K2 : Hid (Blk W w.heap.size #[.slice a m cap, .int .i64 p.pump, .int .i64 p.on, .int .i64 p.off]) := by subst hW; exact zH ((Blk.new _ _ _).alloc _)
  have K4 : Hid (Blk W (w.heap.size + 1) #[.slice none 0 0, .int .i64 0, .int .i64 0, .int .i64 0]) := by subst hW; exact zH (Blk.newAt _ _ _ (by simp))
  have HB : Hid (Below w.heap.size w W) := by subst hW; exact zH (bAlloc (bAlloc (bSelf w) _) _)
  clear hW
  refine (HCK.out _ HB.out).mono ?_
  rintro e w1 ⟨rfl, hb⟩
  replace K2 := zH ((K2.out.to hb).alloc (.cells #[.int .i64 c2, .int .i64 (unl wb 2)] 29))
  replace K4 := zH ((K4.out.to hb).alloc (.cells #[.int .i64 c2, .int .i64 (unl wb 2)] 29))
  replace HB := zH (bAlloc (bThen HB.out hb) (.cells #[.int .i64 c2, .int .i64 (unl wb 2)] 29))
  clear hb HCK
  by_cases h0 : fe = 0
  case neg =>
    have h0' : (fe != 0) = true := by simpa using h0
    have he := HE.out.trans (if_neg h0)
    subst he
    have hq := HO.out.trans (if_neg h0)
    have HQ := zH hq
    clear HE HO HF0 HBT HY h0 hq
    go_wp2_with (first | (go_at_call 99; refine (HWI.out _).mono ?_; rintro e w' ⟨rfl, rfl⟩) | (go_at_call 94; refine (oUnless_any _ _ _).mono ?_; rintro e w' ⟨rfl, rfl⟩) | (go_at_call 92; refine (HFI.out _ _ (by simp)).mono ?_; rintro e w' ⟨rfl, rfl⟩; obtain ⟨-, k4c, f4⟩ := K4.out))
    clear k4c f4
    have F := (K4.out.st4 (.slice none 0 0) (.int .i64 0) (.int .i64 0) (.int .i64 0)).2.1
    have F0 := F 0; have F1 := F 1; have F2 := F 2; have F3 := F 3
    unfold st4 at F0 F1 F2 F3
    clear F
    have hfin := HZ.out (st4 (w1.alloc (.cells #[.int .i64 c2, .int .i64 (unl wb 2)] 29)) (w.heap.size + 1) (.slice none 0 0) (.int .i64 0) (.int .i64 0) (.int .i64 0)) (.returned (.tuple #[.agg #[.slice none 0 0, .int .i64 0, .int .i64 0, .int .i64 0], .int .i64 er])) HQ.out rfl (HB.out.trans (below_st4 _ (Nat.le_succ _) _ _ _ _))
    refine bodyPost_ret (v := .tuple #[.agg #[.slice none 0 0, .int .i64 0, .int .i64 0, .int .i64 0], .int .i64 er]) ?_ rfl hfin
    simp [results, Tryz.results82, go_sem, F0, F1, F2, F3]
  subst h0
  obtain ⟨hc0, hkk⟩ := HF0.out (by first | rfl | trivial)
  replace HBT := zH (fun W hb => HBT.out W hc0 hkk hb)
  have he := HE.out.trans (if_pos rfl)
  subst he
  have HO2 := zH HO.out
  clear HE HO HF0 hc0 hkk
  go_wp2_with (first | (go_at_call 99; refine (HWI.out _).mono ?_; rintro e w' ⟨rfl, rfl⟩) | (go_at_call 94; refine (oUnless_any _ _ _).mono ?_; rintro e w' ⟨rfl, rfl⟩) | (go_at_call 92; refine (HFI.out _ _ (by simp)).mono ?_; rintro e w' ⟨rfl, rfl⟩; obtain ⟨-, k2c, -⟩ := K2.out))
  clear k2c
  refine (HBT.out _ HB.out).mono ?_
  rintro e w3 ⟨a', c', rfl, hc', hrd, hb, hfr⟩
  have HFR := zH hfr
  have HS4 := zH K4.out.1
  replace K4 := zH (K4.out.to hb)
  replace HB := zH (bThen HB.out hb)
  have HRD := zH hrd
  clear hb hrd hfr HBT K2 HWI HFI
  have K4a := zH (K4.out.alloc (.cells #[.slice a' m c', .int .i64 p.pump, .int .i64 p.on, .int .i64 p.off] 44))
  have HBa := zH (bAlloc HB.out (.cells #[.slice a' m c', .int .i64 p.pump, .int .i64 p.on, .int .i64 p.off] 44))
  have HRa := zH (HRD.out.alloc (.cells #[.slice a' m c', .int .i64 p.pump, .int .i64 p.on, .int .i64 p.off] 44))
  cases bo with
  | false =>
    have hq := HO2.out.trans (if_neg (by decide))
    have HQ := zH hq
    obtain ⟨-, k4c, f4⟩ := K4a.out
    clear HO2 hq HY
    go_wp2_with fail
    clear k4c f4
    have F := (K4a.out.st4 (.slice none 0 0) (.int .i64 0) (.int .i64 0) (.int .i64 0)).2.1
    have F0 := F 0; have F1 := F 1; have F2 := F 2; have F3 := F 3
    unfold st4 at F0 F1 F2 F3
    clear F
    have hfin := HZ.out (st4 (w3.alloc (.cells #[.slice a' m c', .int .i64 p.pump, .int .i64 p.on, .int .i64 p.off] 44)) (w.heap.size + 1) (.slice none 0 0) (.int .i64 0) (.int .i64 0) (.int .i64 0)) (.returned (.tuple #[.agg #[.slice none 0 0, .int .i64 0, .int .i64 0, .int .i64 0], .int .i64 8])) HQ.out rfl (HBa.out.trans (below_st4 _ (Nat.le_succ _) _ _ _ _))
    refine bodyPost_ret (v := .tuple #[.agg #[.slice none 0 0, .int .i64 0, .int .i64 0, .int .i64 0], .int .i64 8]) ?_ rfl hfin
    simp [results, Tryz.results82, go_sem, F0, F1, F2, F3]
  | true =>
    have hq := HO2.out.trans (if_pos rfl)
    have HQ := zH hq
    have HNE : Hid (w.heap.size + 1 < w3.heap.size) := zH K4.out.1
    obtain ⟨-, k4c, f4⟩ := K4a.out
    clear HO2 hq HZ
    go_wp2_with fail
    clear k4c f4
    have F := (K4a.out.st4 (.slice a' m c') (.int .i64 p.pump) (.int .i64 p.on) (.int .i64 p.off)).2.1
    have F0 := F 0; have F1 := F 1; have F2 := F 2; have F3 := F 3
    unfold st4 at F0 F1 F2 F3
    clear F
    have HRF : Reads (st4 (w3.alloc (.cells #[.slice a' m c', .int .i64 p.pump, .int .i64 p.on, .int .i64 p.off] 44)) (w.heap.size + 1) (.slice a' m c') (.int .i64 p.pump) (.int .i64 p.on) (.int .i64 p.off)) a' (m * 2) (fracs (btlQ k p.pts)) := by
      exact HRa.out.st4 (fun q hq => by have := HFR.out q hq; have := HS4.out; omega) _ _ _ _
    have hfin := HY.out _ (.returned (.tuple #[.agg #[.slice a' m c', .int .i64 p.pump, .int .i64 p.on, .int .i64 p.off], .int .i64 0])) a' c' HQ.out rfl hc' HRF (HBa.out.trans (below_st4 _ (Nat.le_succ _) _ _ _ _))
    refine bodyPost_ret (v := .tuple #[.agg #[.slice a' m c', .int .i64 p.pump, .int .i64 p.on, .int .i64 p.off], .int .i64 0]) ?_ rfl hfin
    simp [results, Tryz.results82, go_sem, F0, F1, F2, F3]
end
section
open Go.RowKit
attribute [local go_sem] Oper.semAt_some

set_option maxHeartbeats 6400000 in
set_option maxRecDepth 100000 in
theorem rBottles_any (p : Plt) (k : Int) (a : Option Addr) (cap : Nat) (w : World) (hp : PtsOk p.pts) (hk : 1 ≤ k ∧ k ≤ 5) (hr : Reads w a (p.pts.length * 2) (fracs p.pts)) :
    Calls Tryz.prog 85 #[.agg (plC p a cap), .int .i64 k] w (BtPost p k w) := by
  have HCL := zH (fun W (hb : Below w.heap.size w W) => rCopyPlant_own p a cap W (by have := hp.two; omega) (by have := hp.few; omega) (hr.to hb))
  obtain ⟨l, pump, on, off⟩ := p
  unfold CpOwn plC at HCL
  unfold BtPost plC
  dsimp only at HCL hp ⊢
  have hn2 := hp.two
  have hn8 := hp.few
  have HVM := zH (fun i hi => vol_mul hp hk (i := i) hi)
  have HBG := zH (fun n0 a' W (h : Own W n0 a' (l.length * 2) (fracs l)) => BtRow.beg (k := k) h (by omega))
  have HCA := zH (fun g W c' (h : BtRow k l g l.length W) => by
    have := rCapacity_any ⟨btlQ k l, pump, on, off⟩ (some ⟨g, 0, none⟩) c' W (by show 1 ≤ (btlQ k l).length; rw [btl_len]; omega) (by show (btlQ k l).length ≤ 100000; rw [btl_len]; omega) (by show Reads W _ ((btlQ k l).length * 2) _; rw [btl_len]; exact h.read)
    unfold plC at this
    dsimp only at this
    rw [btl_len] at this
    exact this)
  have HPT := zH (fun g i W (h : BtRow k l g i W) hi => h.put1 hi)
  have HVL := zH (fun g i W (h : BtRow k l g i W) hi => h.vol hi)
  have HLS := zH (fun g W (h : BtRow k l g l.length W) => h.last1 (by omega))
  have HRE := zH (fun g W (h : BtRow k l g l.length W) => h.read)
  have HBK : Hid (bokB k l = decide (capV (btlQ k l) ≤ 200)) := zH rfl
  have HCV : Hid (0 ≤ capV (btlQ k l) ∧ capV (btlQ k l) ≤ 1000) := zH (by rw [btl_cap]; exact HVM.out (l.length - 1) (by omega))
  obtain ⟨C, hC⟩ : ∃ C, capV (btlQ k l) = C := ⟨_, rfl⟩
  obtain ⟨bo, hbo⟩ : ∃ C, bokB k l = C := ⟨_, rfl⟩
  rw [hC] at HLS HBK HCV HCA
  rw [hbo] at HBK ⊢
  obtain ⟨n, hn⟩ : ∃ n, l.length = n := ⟨_, rfl⟩
  rw [hn] at HCL HVM HBG HPT HVL HLS HRE HCA hn2 hn8 ⊢
  obtain ⟨k1, k2⟩ := hk
  clear hr hp hC hbo hn
  go_enter Tryz.func85, Tryz.ntmps85
  go_wp2_with fail
  obtain ⟨W, hW⟩ : ∃ W, (w.alloc (.cells #[.slice a n cap, .int .i64 pump, .int .i64 on, .int .i64 off] 44)).alloc (.cells #[.slice none 0 0, .int .i64 0, .int .i64 0, .int .i64 0] 44) = W := ⟨_, rfl⟩
  rw [hW]
  have K2 : Hid (Blk W w.heap.size #[.slice a n cap, .int .i64 pump, .int .i64 on, .int .i64 off]) := by subst hW; exact zH ((Blk.new _ _ _).alloc _)
  have K4 : Hid (Blk W (w.heap.size + 1) #[.slice none 0 0, .int .i64 0, .int .i64 0, .int .i64 0]) := by subst hW; exact zH (Blk.newAt _ _ _ (by simp))
  have HB : Hid (Below w.heap.size w W) := by subst hW; exact zH (bAlloc (bAlloc (bSelf w) _) _)
  clear hW
  refine (HCL.out _ HB.out).mono ?_
  rintro e w1 ⟨a', c', rfl, hc', hown2, hb⟩
  obtain ⟨g, rfl, hg, hrow⟩ := HBG.out _ _ _ hown2
  have HG : Hid (w.heap.size + 1 < g) := zH (by have := K4.out.1; omega)
  have HRW := zH hrow
  replace K4 := zH (K4.out.to hb)
  replace HB := zH (bThen HB.out hb)
  clear hb hown2 hrow hg HCL HBG K2
  go_wp2_with fail
  obtain ⟨w2, hw2⟩ : ∃ u, w1.alloc (.cells #[.slice (some ⟨g, 0, none⟩) n c', .int .i64 pump, .int .i64 on, .int .i64 off] 44) = u := ⟨_, rfl⟩
  rw [hw2]
  have hb : Below w1.heap.size w1 w2 := by subst hw2; exact bAlloc (bSelf _) _
  have KA : Hid (Blk w2 w1.heap.size #[.slice (some ⟨g, 0, none⟩) n c', .int .i64 pump, .int .i64 on, .int .i64 off]) := by subst hw2; exact zH (Blk.new _ _ _)
  have KB := zH (K4.out.to hb)
  have HRV := zH (HRW.out.to hb)
  have HBV := zH (bThen HB.out hb)
  have HG6 : Hid (g ≠ w1.heap.size) := zH (by have := HRW.out.frz1.1; omega)
  have H46 : Hid (w.heap.size + 1 ≠ w1.heap.size) := zH (by have := K4.out.1; omega)
  obtain ⟨B6, hB6⟩ : ∃ u, w1.heap.size = u := ⟨_, rfl⟩
  rw [hB6] at KA HG6 H46 ⊢
  clear hw2 hb hB6 K4 HRW HB
  go_loopw [7] (fun s14 wr => ∃ i : Nat, s14 = .int .i64 i ∧ i ≤ n ∧ Hid (BtRow k l g i wr) ∧ Hid (Blk wr B6 #[.slice (some ⟨g, 0, none⟩) n c', .int .i64 pump, .int .i64 on, .int .i64 off]) ∧ Hid (Blk wr (w.heap.size + 1) #[.slice none 0 0, .int .i64 0, .int .i64 0, .int .i64 0]) ∧ Hid (Below w.heap.size w wr)) (fun s14 _ => n - (intOf s14).toNat)
  case atStart => exact ⟨0, rfl, Nat.zero_le _, HRV, KA, KB, HBV⟩
  case round =>
    clear HRV KA KB HBV
    obtain ⟨i, rfl, hi, HRW, K2, K4, HB⟩ := hrel
    by_cases hlt : i < n
    · obtain ⟨m0, m1⟩ := HVM.out i hlt
      obtain ⟨wv, hwv⟩ : ∃ wv, wv = wr := ⟨_, rfl⟩
      subst hwv
      obtain ⟨x, hx⟩ : ∃ x, (fg l i).1 = x := ⟨_, rfl⟩
      have HV := zH (HVL.out g i wv HRW.out hlt)
      have HPT1 := zH (fun W h => HPT.out g i W h hlt)
      rw [hx] at m0 m1 HV HPT1
      obtain ⟨hgs, -⟩ := HRW.out.frz1
      clear hx HVM HVL HPT HLS HRE HCA
      obtain ⟨-, k2c, -⟩ := K2.out
      go_wp2_with fail
      clear k2c
      refine wp_region_quiet_tail 13 (fun w' => Below (World.heap wv).size (wv) w') (by kernel_rfl) (by kernel_rfl) (Below.refl _ _).drew ?_
      simp only [List.take_succ_cons, List.take_zero, List.drop_succ_cons, List.drop_zero]
      refine WQ.out ?_
      repeat (first | (refine WQ_no (by rfl) ?_; (simp only [Act.put, zzT, zzO, zzS])) | (refine WQ_yes (by rfl) ?_; apply Exists.intro; refine ⟨fun w1 hb1 => ?_, ?_⟩; (focus (((obtain ⟨-, k2c, -⟩ := K2.out.to hb1; have hv1 := (hb1.cell (p := ⟨g, i * 2, none⟩) hgs).trans HV.out); have hb1 := zH hb1; go_simp); (try (go_bits; try go_simp)); (try (rw [if_pos (by omega)]; try go_simp)); (first | done | (with_reducible rfl) | exact rfl))); (simp only [Act.put, zzT, zzO, zzS])))
      refine WQ_nil ?_
      intro w1 hb1
      replace K2 := zH (K2.out.to hb1)
      replace K4 := zH (K4.out.to hb1)
      replace HRW := zH (HRW.out.to hb1)
      replace HB := zH (bThen HB.out hb1)
      have hv := (hb1.cell (p := ⟨g, i * 2, none⟩) hgs).trans HV.out
      have hfz' := HRW.out.frz1.2 (i * 2)
      clear hb1
      go_wp2_with fail
      go_roundw
      case rel => exact ⟨i + 1, by go_num, by omega, zH (HPT1.out _ HRW.out), zH (K2.out.other (p := ⟨g, i * 2, none⟩) HG6.out _), zH (K4.out.other (p := ⟨g, i * 2, none⟩) (show g ≠ w.heap.size + 1 by have := HG.out; omega) _), zH (HB.out.setCell (p := ⟨g, i * 2, none⟩) (show w.heap.size ≤ g by have := HG.out; omega) _)⟩
      case measure => simp [intOf]; omega
    · obtain rfl : i = n := by omega
      obtain ⟨wv, hwv⟩ : ∃ wv, wv = wr := ⟨_, rfl⟩
      subst hwv
      have HCC := zH (fun W (hb : Below wv.heap.size wv W) => HCA.out g W c' (HRW.out.to hb))
      have HRD := zH (HRE.out g wv HRW.out)
      obtain ⟨-, k2c, -⟩ := K2.out
      clear HVM HVL HPT HLS HRE HRW HCA HCV
      go_wp2_with fail
      clear k2c
      refine wp_region_graph (KeepR w.heap.size B6) (KeepR.pre _ _) (by kernel_rfl) (fun wi hwe hwi => ?_)
      replace K2 := zH (K2.out.to hwi)
      replace K4 := zH (K4.out.to hwi)
      replace HRD := zH (HRD.out.to hwi)
      replace HB := zH (bThen HB.out hwi)
      replace HCC := zH (HCC.out wi hwi)
      have hsi : Hid (w.heap.size ≤ wi.heap.size) := zH HB.out.size
      clear hwe hwi
      refine WG_yes 0 rfl (by kernel_rfl) (fun _ _ _ _ _ h => h) (by rfl) ?_; apply Exists.intro; refine ⟨fun w1 hb1 => ?_, ?_⟩; (focus (((obtain ⟨-, k2c, -⟩ := K2.out.same hb1.2); have hb1 := zH hb1; go_simp); (try (go_bits; try go_simp)); (try (rw [if_pos (by omega)]; try go_simp)); (first | done | (with_reducible rfl) | exact rfl)))
      simp only [Act.put, zzT, zzO, zzS]
      refine WG_yes 1 rfl (by kernel_rfl) (fun _ _ _ _ _ h => h) (by rfl) ?_; apply Exists.intro; refine ⟨fun w1 hb1 => ?_, ?_⟩; (focus (((obtain ⟨-, k2c, -⟩ := K2.out.same hb1.2); have hb1 := zH hb1; go_simp); (try (go_bits; try go_simp)); (try (rw [if_pos (by omega)]; try go_simp)); (first | done | (with_reducible rfl) | exact rfl)))
      simp only [Act.put, zzT, zzO, zzS]
      refine WG_one 2 rfl (by kernel_rfl) ?_
      unfold stepG
      go_wp2_with fail
      refine HCC.out.mono ?_
      rintro e w5 ⟨rfl, hb⟩
      have hk5 : KeepR w.heap.size B6 wi w5 := ⟨hb.mono hsi.out, hb.block _ K2.out.1⟩
      replace K4 := zH (K4.out.to hb)
      replace HRD := zH (HRD.out.to hb)
      replace HB := zH (bThen HB.out hb)
      clear hb HCC
      go_wp2_with fail
      refine ⟨hk5, ?_⟩
      clear hk5
      refine WG_yes 3 rfl (by kernel_rfl) (fun _ _ _ _ _ h => h) (by rfl) ?_; apply Exists.intro; refine ⟨fun w1 hb1 => ?_, ?_⟩; (focus ((have hb1 := zH hb1; go_simp); (try (go_bits; try go_simp)); (try (rw [if_pos (by omega)]; try go_simp)); (first | done | (with_reducible rfl) | exact rfl)))
      simp only [Act.put, zzT, zzO, zzS]
      rw [← HBK.out]
      refine WG_one 4 rfl (by kernel_rfl) ?_
      unfold stepG
      obtain ⟨-, k4c, f4⟩ := K4.out
      go_wp2_with fail
      clear k4c f4
      obtain ⟨w6, hw6⟩ : ∃ u, st4 w5 (w.heap.size + 1) (.slice (some ⟨g, 0, none⟩) i c') (.int .i64 pump) (.int .i64 on) (.int .i64 off) = u := ⟨_, rfl⟩
      have hb6 := below_st4 w5 (Nat.le_succ w.heap.size) (.slice (some ⟨g, 0, none⟩) i c') (.int .i64 pump) (.int .i64 on) (.int .i64 off)
      have hk6 : (st4 w5 (w.heap.size + 1) (.slice (some ⟨g, 0, none⟩) i c') (.int .i64 pump) (.int .i64 on) (.int .i64 off)).heap[B6]? = w5.heap[B6]? := by
        unfold st4
        rw [Below.heap_setCell _ _ _ _ (fun e => H46.out e.symm), Below.heap_setCell _ _ _ _ (fun e => H46.out e.symm), Below.heap_setCell _ _ _ _ (fun e => H46.out e.symm), Below.heap_setCell _ _ _ _ (fun e => H46.out e.symm)]
      have F := (K4.out.st4 (.slice (some ⟨g, 0, none⟩) i c') (.int .i64 pump) (.int .i64 on) (.int .i64 off)).2.1
      have F0 := F 0; have F1 := F 1; have F2 := F 2; have F3 := F 3
      have HRF := HRD.out.st4 (b := w.heap.size + 1) (fun q hq => by cases hq; have := HG.out; show g ≠ _; omega) (.slice (some ⟨g, 0, none⟩) i c') (.int .i64 pump) (.int .i64 on) (.int .i64 off)
      rw [hw6] at hb6 hk6 F0 F1 F2 F3 HRF
      unfold st4 at hw6
      rw [hw6]
      refine ⟨⟨hb6, hk6⟩, ?_⟩
      have HBF := zH (HB.out.trans hb6)
      have HRG := zH HRF
      have HF0 := zH F0
      have HF1 := zH F1
      have HF2 := zH F2
      have HF3 := zH F3
      clear F F0 F1 F2 F3 HRF hw6 hb6 hk6
      refine WG_yes 5 rfl (by kernel_rfl) (fun _ _ _ _ _ h => h) (by rfl) ?_; apply Exists.intro; refine ⟨fun w1 hb1 => ?_, ?_⟩; (focus ((have hb1 := zH hb1; go_simp); (try (go_bits; try go_simp)); (try (rw [if_pos (by omega)]; try go_simp)); (first | done | (with_reducible rfl) | exact rfl)))
      simp only [Act.put, zzT, zzO, zzS]
      refine WG_done (by kernel_rfl) ?_
      go_wp2_with fail
      have F0 := HF0.out; have F1 := HF1.out; have F2 := HF2.out; have F3 := HF3.out
      refine bodyPost_ret (v := .tuple #[.agg #[.slice (some ⟨g, 0, none⟩) i c', .int .i64 pump, .int .i64 on, .int .i64 off], .bool bo]) ?_ rfl ⟨_, _, rfl, hc', HRG.out, HBF.out, fun q hq => by cases hq; have := HG.out; show w.heap.size ≤ g; omega⟩
      simp [results, Tryz.results85, go_sem, F0, F1, F2, F3]
end
section
open Go.RowKit
structure CsI (L : List OSt) (W2 : World) (k : Nat) (W : World) : Prop where
  be : Below W2.heap.size W2 W
  bx : Blk W (W2.heap.size + 1) #[.map (some W2.heap.size)]
  st : SetW W W2.heap.size k (inS (L.take k))
theorem CsI.to {L : List OSt} {W2 : World} {k : Nat} {W W' : World} (h : CsI L W2 k W) (hb : Below W.heap.size W W') : CsI L W2 k W' := ⟨bThen h.be hb, h.bx.to hb, h.st.to hb⟩
theorem sg_take {l : List OSt} {k : Nat} (h : k < l.length) : l.take (k + 1) = l.take k ++ [sg l k] := by
  rw [List.take_succ_eq_append_getElem h]
  unfold sg
  rw [List.getD_eq_getElem?_getD, List.getElem?_eq_getElem h]
  rfl
end
section
set_option maxRecDepth 100000
set_option maxHeartbeats 6400000
open Go.RowKit
attribute [local go_sem] Oper.semAt_some

theorem rLess_any (a b : OSt) (w : World) :
    Calls Tryz.prog 130 #[.agg #[.int .i64 a.1, .bool a.2], .agg #[.int .i64 b.1, .bool b.2]] w fun e w' => e = .returned (.bool (ltS a b)) ∧ Below w.heap.size w w' := by
  obtain ⟨a1, a2⟩ := a
  obtain ⟨b1, b2⟩ := b
  unfold ltS
  dsimp only
  by_cases h1 : a1 < b1
  · rw [decide_eq_true h1, Bool.true_or]
    go_enter Tryz.func130, Tryz.ntmps130
    go_wp2_with fail
    go_ret
    exact ⟨rfl, bAlloc (bAlloc (bSelf w) _) _⟩
  · rw [decide_eq_false h1, Bool.false_or]
    by_cases h2 : a1 = b1
    · subst h2
      cases a2 <;> cases b2
      all_goals
        go_enter Tryz.func130, Tryz.ntmps130
        go_wp2_with fail
        go_ret
        exact ⟨ret_bool (by simp), bAlloc (bAlloc (bSelf w) _) _⟩
    · have h3 : (a1 == b1) = false := by simpa using h2
      rw [h3, Bool.false_and, Bool.false_and]
      have h4 : b1 < a1 := by omega
      go_enter Tryz.func130, Tryz.ntmps130
      go_wp2_with fail
      go_ret
      exact ⟨rfl, bAlloc (bAlloc (bSelf w) _) _⟩

/-- What stands at the head of a round of put. -/
structure PutI (l : List OSt) (s : OSt) (k : Nat) (dn : Bool) (out : List OSt) : Prop where
  eq : putS l s = out ++ (if dn = true then l.drop k else putS (l.drop k) s)
  no : dn = true → ∀ j, k ≤ j → j < l.length → sg l j ≠ s
  at' : dn = false → out = l.take k
  le : out.length ≤ k + 1
theorem drop_sg {l : List OSt} {k : Nat} (h : k < l.length) : l.drop k = sg l k :: l.drop (k + 1) := by
  rw [List.drop_eq_getElem_cons h]
  unfold sg
  rw [List.getD_eq_getElem?_getD, List.getElem?_eq_getElem h]
  rfl
theorem PutI.start (l : List OSt) (s : OSt) : PutI l s 0 false [] := ⟨rfl, fun h => (by cases h), fun _ => rfl, Nat.zero_le _⟩
theorem putS_cons (x : OSt) (l : List OSt) (s : OSt) : putS (x :: l) s = if x = s then x :: l else if ltS s x then s :: x :: l else x :: putS l s := rfl
theorem srt_lt {l : List OSt} (h : SrtS l) {i j : Nat} (hij : i < j) (hj : j < l.length) : ltS (sg l i) (sg l j) = true := by
  have := (List.pairwise_iff_getElem.1 h) i j (by omega) hj hij
  unfold sg
  rw [List.getD_eq_getElem?_getD, List.getD_eq_getElem?_getD, List.getElem?_eq_getElem (by omega : i < l.length), List.getElem?_eq_getElem hj]
  exact this
/-- The state stands there. -/
theorem PutI.found {l : List OSt} {s : OSt} {k : Nat} {dn : Bool} {out : List OSt} (h : PutI l s k dn out) (hk : k < l.length) (e : sg l k = s) : putS l s = l := by
  cases dn with
  | true => exact absurd e (h.no rfl k (Nat.le_refl _) hk)
  | false =>
    rw [h.eq, h.at' rfl, if_neg (by decide), drop_sg hk]
    rw [putS_cons, if_pos e, ← drop_sg hk, List.take_append_drop]
/-- It is laid in ahead of the next one. -/
theorem PutI.lay {l : List OSt} {s : OSt} {k : Nat} {out : List OSt} (h : PutI l s k false out) (hs : SrtS l) (hk : k < l.length) (e : sg l k ≠ s) (hl : ltS s (sg l k) = true) : PutI l s (k + 1) true (out ++ [s] ++ [sg l k]) := by
  refine ⟨?_, fun _ j hj hjl e2 => ?_, fun h => (by cases h), ?_⟩
  · rw [h.eq, if_neg (by decide), if_pos rfl, drop_sg hk]
    rw [putS_cons, if_neg e, if_pos hl]
    simp
  · have h1 := srt_lt hs (show k < j by omega) hjl
    rw [e2] at h1
    have h2 := ltS_asym h1
    rw [h2] at hl
    cases hl
  · have h1 := h.at' rfl
    subst h1
    simp only [List.length_append, List.length_take, List.length_cons, List.length_nil]
    omega
/-- The next one alone. -/
theorem PutI.go {l : List OSt} {s : OSt} {k : Nat} {dn : Bool} {out : List OSt} (h : PutI l s k dn out) (hk : k < l.length) (e : sg l k ≠ s) (hl : dn = true ∨ ltS s (sg l k) = false) : PutI l s (k + 1) dn (out ++ [sg l k]) := by
  cases dn with
  | true =>
    refine ⟨?_, fun _ j hj hjl => h.no rfl j (by omega) hjl, fun h => (by cases h), by have := h.le; simp; omega⟩
    rw [h.eq, if_pos rfl, if_pos rfl, drop_sg hk]
    simp
  | false =>
    have hl' : ltS s (sg l k) = false := hl.resolve_left (by decide)
    refine ⟨?_, fun h => (by cases h), fun _ => ?_, by have := h.le; simp; omega⟩
    · rw [h.eq, if_neg (by decide), if_neg (by decide), drop_sg hk]
      rw [putS_cons, if_neg e, if_neg (by rw [hl']; decide)]
      simp
    · rw [h.at' rfl, sg_take hk]
/-- All done. -/
theorem PutI.fin {l : List OSt} {s : OSt} {dn : Bool} {out : List OSt} (h : PutI l s l.length dn out) : putS l s = if dn = true then out else out ++ [s] := by
  rw [h.eq, List.drop_length]
  cases dn with
  | true => simp
  | false => rfl

def PutPost (l : List OSt) (s : OSt) (w : World) (e : Ending) (w' : World) : Prop :=
  ∃ a' c', e = .returned (.slice a' (putS l s).length c') ∧ (putS l s).length ≤ c' ∧ Reads w' a' ((putS l s).length * 2) (osts (putS l s)) ∧ Below w.heap.size w w'
theorem scells_snoc (l : List OSt) (s : OSt) : scells (l ++ [s]) = scells l ++ [.int .i64 s.1, .bool s.2] := by
  unfold scells
  rw [List.flatMap_append]
  rfl

theorem rPut_any (l : List OSt) (s : OSt) (a : Option Addr) (cap : Nat) (w : World) (hlen : l.length ≤ 100000) (hcap : l.length ≤ cap) (hs : SrtS l) (hr : Reads w a (l.length * 2) (osts l)) :
    Calls Tryz.prog 171 #[.slice a l.length cap, .agg #[.int .i64 s.1, .bool s.2]] w (PutPost l s w) := by
  have HA := zH hr
  have HS := zH hs
  have HFD := zH (fun k dn out (h : PutI l s k dn out) hk e => h.found hk e)
  have HLY := zH (fun k out (h : PutI l s k false out) hk e hl => h.lay hs hk e hl)
  have HGO := zH (fun k dn out (h : PutI l s k dn out) hk e hl => h.go hk e hl)
  have HFN := zH (fun dn out (h : PutI l s l.length dn out) => h.fin)
  have HST := zH (PutI.start l s)
  obtain ⟨n, hn⟩ : ∃ n, l.length = n := ⟨_, rfl⟩
  have HN := zH hn
  rw [hn] at HA HFD HLY HGO HFN hlen hcap ⊢
  clear hr hs hn
  obtain ⟨s1, s2⟩ := s
  dsimp only
  go_enter Tryz.func171, Tryz.ntmps171
  go_wp2_with fail
  obtain ⟨W, hW⟩ : ∃ W, w.alloc (.cells #[.int .i64 s1, .bool s2] 46) = W := ⟨_, rfl⟩
  rw [hW]
  have K3 : Hid (Blk W w.heap.size #[.int .i64 s1, .bool s2]) := by subst hW; exact zH (Blk.new _ _ _)
  have HB : Hid (Below w.heap.size w W) := by subst hW; exact zH (bAlloc (bSelf w) _)
  replace HA := zH (HA.out.to HB.out)
  clear hW
  go_loopw [5, 6, 7] (fun s5 s6 s7 wr => ∃ (k : Nat) (va : Option Addr) (vc : Nat) (dn : Bool) (out : List OSt), s5 = .slice va out.length vc ∧ s6 = .bool dn ∧ s7 = .int .i64 k ∧ k ≤ n ∧ Hid (PutI l (s1, s2) k dn out) ∧ Hid (wr.ownsRow W.heap.size 46 2 (.slice va out.length vc) out.length (scells out)) ∧ Hid (Below W.heap.size W wr)) (fun _ _ s7 _ => n - (intOf s7).toNat)
  case atStart => exact ⟨0, none, 0, false, [], rfl, rfl, rfl, Nat.zero_le _, HST, zH ⟨by simp [scells], .inl ⟨rfl, rfl⟩⟩, zH (bSelf W)⟩
  case round =>
    obtain ⟨k, va, vc, dn, out, rfl, rfl, rfl, hk, HP, HO, HR0⟩ := hrel
    have hol := HP.out.le
    obtain ⟨m, hm⟩ : ∃ m, out.length = m := ⟨_, rfl⟩
    have HM := zH hm
    rw [hm] at HO hol ⊢
    clear hm
    obtain ⟨-, k3, -⟩ := K3.out.to HR0.out
    by_cases hlt : k < n
    · obtain ⟨ba, oa, rfl, hba, hca⟩ := HA.out.at (k := k * 2) (by omega)
      obtain ⟨⟨n1, d1⟩, hz⟩ : ∃ q, sg l k = q := ⟨_, rfl⟩
      have h1 : Hid (W.cell? ⟨ba, oa + k * 2, none⟩ = some (.int .i64 n1)) := zH (by rw [hca _ (by omega), osts0, hz])
      have h2 : Hid (W.cell? ⟨ba, oa + k * 2 + 1, none⟩ = some (.bool d1)) := zH (by rw [Nat.add_assoc, hca _ (by omega), osts1, hz])
      have HFK := zH (fun e => HFD.out k dn out HP.out hlt e)
      have HGK := zH (fun e hl => HGO.out k dn out HP.out hlt e hl)
      have HLK := zH (fun (hd : dn = false) e hl => HLY.out k out (by subst hd; exact HP.out) hlt e hl)
      rw [hz] at HFK HGK HLK
      clear hca hz HFD HGO HFN HST HLY
      by_cases he : (n1, d1) = (s1, s2)
      · cases he
        have hput := HFK.out rfl
        go_wp2_with fail
        clear k3
        refine wp_region_quiet_all (fun w' => Below (World.heap wr).size (wr) w') (by kernel_rfl) (by kernel_rfl) (Below.refl _ _).drew ?_
        refine WQ.out ?_
        repeat (first | (refine WQ_no (by rfl) ?_; (simp only [Act.put, zzT, zzO, zzS])) | (refine WQ_yes (by rfl) ?_; apply Exists.intro; refine ⟨fun w1 hb1 => ?_, ?_⟩; (focus (((have k1 := ((HR0.out.trans (hb1.mono HR0.out.size)).cell (p := ⟨ba, oa + k * 2, none⟩) hba).trans h1.out; have k2 := ((HR0.out.trans (hb1.mono HR0.out.size)).cell (p := ⟨ba, oa + k * 2 + 1, none⟩) hba).trans h2.out; obtain ⟨-, k3, -⟩ := K3.out.to (HR0.out.trans (hb1.mono HR0.out.size))); have hb1 := zH hb1; go_simp); (try (go_bits; try go_simp)); (try (rw [if_pos (by omega)]; try go_simp)); (first | done | (with_reducible rfl) | exact rfl))); (simp only [Act.put, zzT, zzO, zzS])))
        refine WQ_nil ?_
        intro w1 hb1
        have HB1 := zH (HR0.out.trans (hb1.mono HR0.out.size))
        clear hb1
        go_wp2_with fail
        go_ret
        refine ⟨some ⟨ba, oa, none⟩, cap, ?_, ?_, ?_, bThen HB.out HB1.out⟩
        · rw [hput, HN.out]; rfl
        · rw [hput, HN.out]; exact hcap
        · rw [hput, HN.out]; exact HA.out.to HB1.out
      · have HE := zH he
        have hcs : (¬ n1 = s1) ∨ (n1 = s1 ∧ ¬ d1 = s2) := by
          by_cases h : n1 = s1
          · exact .inr ⟨h, fun h2 => he (by rw [h, h2])⟩
          · exact .inl h
        clear he HFK
        replace HGK := zH (fun hl => HGK.out HE.out hl)
        replace HLK := zH (fun hd hl => HLK.out hd HE.out hl)
        have HLS := zH (fun W => rLess_any (s1, s2) (n1, d1) W)
        obtain ⟨lt, hlt'⟩ : ∃ b, ltS (s1, s2) (n1, d1) = b := ⟨_, rfl⟩
        rw [hlt'] at HLS HGK HLK
        dsimp only at HLS
        clear hlt' HE
        rcases hcs with hn | ⟨rfl, hn⟩
        · go_wp2_with fail
          clear k3
          refine wp_region_quiet_all (fun w' => Below (World.heap wr).size (wr) w') (by kernel_rfl) (by kernel_rfl) (Below.refl _ _).drew ?_
          refine WQ.out ?_
          repeat (first | (refine WQ_no (by rfl) ?_; (simp only [Act.put, zzT, zzO, zzS])) | (refine WQ_yes (by rfl) ?_; apply Exists.intro; refine ⟨fun w1 hb1 => ?_, ?_⟩; (focus (((have k1 := ((HR0.out.trans (hb1.mono HR0.out.size)).cell (p := ⟨ba, oa + k * 2, none⟩) hba).trans h1.out; have k2 := ((HR0.out.trans (hb1.mono HR0.out.size)).cell (p := ⟨ba, oa + k * 2 + 1, none⟩) hba).trans h2.out; obtain ⟨-, k3, -⟩ := K3.out.to (HR0.out.trans (hb1.mono HR0.out.size))); have hb1 := zH hb1; go_simp); (try (go_bits; try go_simp)); (try (rw [if_pos (by omega)]; try go_simp)); (first | done | (with_reducible rfl) | exact rfl))); (simp only [Act.put, zzT, zzO, zzS])))
          refine WQ_nil ?_
          intro w1 hb1
          have HOw := zH (owns_to HO.out hb1)
          replace HR0 := zH (HR0.out.trans (hb1.mono HR0.out.size))
          clear hb1 HO
          go_wp2_with fail
          cases dn
          · cases lt
            · obtain ⟨wx, hwx⟩ : ∃ x, x = w1 := ⟨_, rfl⟩
              subst hwx
              refine wp_region_quiet_all (fun w' => Below (World.heap wx).size (wx) w') (by kernel_rfl) (by kernel_rfl) (Below.refl _ _).drew ?_
              refine WQ.out ?_
              repeat (first | (refine WQ_no (by rfl) ?_; (simp only [Act.put, zzT, zzO, zzS])) | (refine WQ_yes (by rfl) ?_; apply Exists.intro; refine ⟨fun w1 hb1 => ?_, ?_⟩; (focus (((have k1 := ((HR0.out.trans (hb1.mono HR0.out.size)).cell (p := ⟨ba, oa + k * 2, none⟩) hba).trans h1.out; have k2 := ((HR0.out.trans (hb1.mono HR0.out.size)).cell (p := ⟨ba, oa + k * 2 + 1, none⟩) hba).trans h2.out; obtain ⟨-, k3, -⟩ := K3.out.to (HR0.out.trans (hb1.mono HR0.out.size))); have hb1 := zH hb1; go_simp); (try (go_bits; try go_simp)); (try (rw [if_pos (by omega)]; try go_simp)); (first | done | ((go_at_call 130; refine (HLS.out _).mono ?_; rintro e w' ⟨rfl, hb⟩; exact ⟨rfl, bThen hb1.out hb⟩)) | (with_reducible rfl) | exact rfl))); (simp only [Act.put, zzT, zzO, zzS])))
              refine WQ_nil ?_
              intro w1 hb1
              replace HOw := zH (owns_to HOw.out hb1)
              have HRw := zH (HR0.out.trans (hb1.mono HR0.out.size))
              clear hb1 HR0 HLS
              have HPN := zH (HGK.out (.inr rfl))
              clear HGK HLK
              have HROW := zH (HOw.out.alloc (.cells #[.int .i64 n1, .bool d1] 46))
              have HNN := zH (Blk.new w1 #[.int .i64 n1, .bool d1] 46).news
              have hlo := zH HOw.out.lt
              have hsw : W.heap.size ≤ w1.heap.size := HRw.out.size
              have k1 := (HRw.out.cell (p := ⟨ba, oa + k * 2, none⟩) hba).trans h1.out
              have k2 := (HRw.out.cell (p := ⟨ba, oa + k * 2 + 1, none⟩) hba).trans h2.out
              obtain ⟨-, k3, -⟩ := K3.out.to HRw.out
              go_wp2_with (at_builtin; go_loud (refine wpList_app W.heap.size rtSt rfl (.tmp 35) (.tmp 40) rfl _ m _ rfl HROW.out ⟨w1.heap.size, 0, none⟩ 1 1 [.int .i64 n1, .bool d1] rfl rfl (by simpa using HNN.out) (onesS [(n1, d1)]) (by unfold maxLen; omega) (by omega) (by simp; omega) ?_; intro v' w7 hown' hgrow _ hwhere; obtain ⟨va', vc', rfl⟩ := ownsRow_sl hown'; have HO7 := zH hown'; have HG7 := zH hgrow; clear hown' hgrow hwhere k1 k2 k3))
              have HRn : Hid (Below W.heap.size W w7) := zH (HRw.out.trans (((Below.refl _ _).alloc hsw _).grown HG7.out (by simp; omega) (fun k e => (hlo.out k e).1)))
              go_roundw
              case rel => exact ⟨k + 1, va', vc', false, out ++ [(n1, d1)], by rw [show (out ++ [(n1, d1)]).length = m + 1 by rw [List.length_append, HM.out]; rfl], rfl, by go_num, by omega, zH HPN.out, zH (by rw [show (out ++ [(n1, d1)]).length = m + 1 by rw [List.length_append, HM.out]; rfl, scells_snoc]; exact HO7.out), HRn⟩
              case measure => simp [intOf]; omega
            · obtain ⟨wx, hwx⟩ : ∃ x, x = w1 := ⟨_, rfl⟩
              subst hwx
              refine wp_region_quiet_all (fun w' => Below (World.heap wx).size (wx) w') (by kernel_rfl) (by kernel_rfl) (Below.refl _ _).drew ?_
              refine WQ.out ?_
              repeat (first | (refine WQ_no (by rfl) ?_; (simp only [Act.put, zzT, zzO, zzS])) | (refine WQ_yes (by rfl) ?_; apply Exists.intro; refine ⟨fun w1 hb1 => ?_, ?_⟩; (focus (((have k1 := ((HR0.out.trans (hb1.mono HR0.out.size)).cell (p := ⟨ba, oa + k * 2, none⟩) hba).trans h1.out; have k2 := ((HR0.out.trans (hb1.mono HR0.out.size)).cell (p := ⟨ba, oa + k * 2 + 1, none⟩) hba).trans h2.out; obtain ⟨-, k3, -⟩ := K3.out.to (HR0.out.trans (hb1.mono HR0.out.size))); have hb1 := zH hb1; go_simp); (try (go_bits; try go_simp)); (try (rw [if_pos (by omega)]; try go_simp)); (first | done | ((go_at_call 130; refine (HLS.out _).mono ?_; rintro e w' ⟨rfl, hb⟩; exact ⟨rfl, bThen hb1.out hb⟩)) | (with_reducible rfl) | exact rfl))); (simp only [Act.put, zzT, zzO, zzS])))
              refine WQ_nil ?_
              intro w1 hb1
              replace HOw := zH (owns_to HOw.out hb1)
              have HRw := zH (HR0.out.trans (hb1.mono HR0.out.size))
              clear hb1 HR0 HLS
              have HPN := zH (HLK.out rfl rfl)
              clear HGK HLK
              have HROW := zH (HOw.out.alloc (.cells #[.int .i64 s1, .bool s2] 46))
              have HNN := zH (Blk.new w1 #[.int .i64 s1, .bool s2] 46).news
              have hlo := zH HOw.out.lt
              have hsw : W.heap.size ≤ w1.heap.size := HRw.out.size
              have k1 := (HRw.out.cell (p := ⟨ba, oa + k * 2, none⟩) hba).trans h1.out
              have k2 := (HRw.out.cell (p := ⟨ba, oa + k * 2 + 1, none⟩) hba).trans h2.out
              obtain ⟨-, k3, -⟩ := K3.out.to HRw.out
              go_upto_region 10 with (at_builtin; go_loud (refine wpList_app W.heap.size rtSt rfl (.tmp 31) (.tmp 33) rfl _ m _ rfl HROW.out ⟨w1.heap.size, 0, none⟩ 1 1 [.int .i64 s1, .bool s2] rfl rfl (by simpa using HNN.out) (onesS [(s1, s2)]) (by unfold maxLen; omega) (by omega) (by simp; omega) ?_; intro v' w6 hown' hgrow _ hwhere; obtain ⟨va', vc', rfl⟩ := ownsRow_sl hown'; have HO7 := zH hown'; have HG7 := zH hgrow; clear hown' hgrow hwhere k1 k2 k3))
              have HR6 : Hid (Below W.heap.size W w6) := zH (HRw.out.trans (((Below.refl _ _).alloc hsw _).grown HG7.out (by simp; omega) (fun k e => (hlo.out k e).1)))
              have HO6 := zH HO7.out
              replace HRw := zH HR6.out
              clear HR6 HROW HNN hlo hsw HOw HG7 HO7
              have HROW := zH (HO6.out.alloc (.cells #[.int .i64 n1, .bool d1] 46))
              have HNN := zH (Blk.new w6 #[.int .i64 n1, .bool d1] 46).news
              have hlo := zH HO6.out.lt
              have hsw : W.heap.size ≤ w6.heap.size := HRw.out.size
              have k1 := (HRw.out.cell (p := ⟨ba, oa + k * 2, none⟩) hba).trans h1.out
              have k2 := (HRw.out.cell (p := ⟨ba, oa + k * 2 + 1, none⟩) hba).trans h2.out
              obtain ⟨-, k3, -⟩ := K3.out.to HRw.out
              go_wp2_with (at_builtin; go_loud (refine wpList_app W.heap.size rtSt rfl (.tmp 35) (.tmp 40) rfl _ (m + 1) _ rfl HROW.out ⟨w6.heap.size, 0, none⟩ 1 1 [.int .i64 n1, .bool d1] rfl rfl (by simpa using HNN.out) (onesS [(n1, d1)]) (by unfold maxLen; omega) (by omega) (by simp; omega) ?_; intro v' w7 hown' hgrow _ hwhere; obtain ⟨va', vc', rfl⟩ := ownsRow_sl hown'; have HO7 := zH hown'; have HG7 := zH hgrow; clear hown' hgrow hwhere k1 k2 k3))
              have HRn : Hid (Below W.heap.size W w7) := zH (HRw.out.trans (((Below.refl _ _).alloc hsw _).grown HG7.out (by simp; omega) (fun k e => (hlo.out k e).1)))
              go_roundw
              case rel => exact ⟨k + 1, va', vc', true, out ++ [(s1, s2)] ++ [(n1, d1)], by rw [show (out ++ [(s1, s2)] ++ [(n1, d1)]).length = m + 1 + 1 by rw [List.length_append, List.length_append, HM.out]; rfl], rfl, by go_num, by omega, zH HPN.out, zH (by rw [show (out ++ [(s1, s2)] ++ [(n1, d1)]).length = m + 1 + 1 by rw [List.length_append, List.length_append, HM.out]; rfl, scells_snoc, scells_snoc]; exact HO7.out), HRn⟩
              case measure => simp [intOf]; omega
          · obtain ⟨wx, hwx⟩ : ∃ x, x = w1 := ⟨_, rfl⟩
            subst hwx
            refine wp_region_quiet_all (fun w' => Below (World.heap wx).size (wx) w') (by kernel_rfl) (by kernel_rfl) (Below.refl _ _).drew ?_
            refine WQ.out ?_
            repeat (first | (refine WQ_no (by rfl) ?_; (simp only [Act.put, zzT, zzO, zzS])) | (refine WQ_yes (by rfl) ?_; apply Exists.intro; refine ⟨fun w1 hb1 => ?_, ?_⟩; (focus (((have k1 := ((HR0.out.trans (hb1.mono HR0.out.size)).cell (p := ⟨ba, oa + k * 2, none⟩) hba).trans h1.out; have k2 := ((HR0.out.trans (hb1.mono HR0.out.size)).cell (p := ⟨ba, oa + k * 2 + 1, none⟩) hba).trans h2.out; obtain ⟨-, k3, -⟩ := K3.out.to (HR0.out.trans (hb1.mono HR0.out.size))); have hb1 := zH hb1; go_simp); (try (go_bits; try go_simp)); (try (rw [if_pos (by omega)]; try go_simp)); (first | done | (with_reducible rfl) | exact rfl))); (simp only [Act.put, zzT, zzO, zzS])))
            refine WQ_nil ?_
            intro w1 hb1
            replace HOw := zH (owns_to HOw.out hb1)
            have HRw := zH (HR0.out.trans (hb1.mono HR0.out.size))
            clear hb1 HR0 HLS
            have HPN := zH (HGK.out (.inl rfl))
            clear HGK HLK
            have HROW := zH (HOw.out.alloc (.cells #[.int .i64 n1, .bool d1] 46))
            have HNN := zH (Blk.new w1 #[.int .i64 n1, .bool d1] 46).news
            have hlo := zH HOw.out.lt
            have hsw : W.heap.size ≤ w1.heap.size := HRw.out.size
            have k1 := (HRw.out.cell (p := ⟨ba, oa + k * 2, none⟩) hba).trans h1.out
            have k2 := (HRw.out.cell (p := ⟨ba, oa + k * 2 + 1, none⟩) hba).trans h2.out
            obtain ⟨-, k3, -⟩ := K3.out.to HRw.out
            go_wp2_with (at_builtin; go_loud (refine wpList_app W.heap.size rtSt rfl (.tmp 35) (.tmp 40) rfl _ m _ rfl HROW.out ⟨w1.heap.size, 0, none⟩ 1 1 [.int .i64 n1, .bool d1] rfl rfl (by simpa using HNN.out) (onesS [(n1, d1)]) (by unfold maxLen; omega) (by omega) (by simp; omega) ?_; intro v' w7 hown' hgrow _ hwhere; obtain ⟨va', vc', rfl⟩ := ownsRow_sl hown'; have HO7 := zH hown'; have HG7 := zH hgrow; clear hown' hgrow hwhere k1 k2 k3))
            have HRn : Hid (Below W.heap.size W w7) := zH (HRw.out.trans (((Below.refl _ _).alloc hsw _).grown HG7.out (by simp; omega) (fun k e => (hlo.out k e).1)))
            go_roundw
            case rel => exact ⟨k + 1, va', vc', true, out ++ [(n1, d1)], by rw [show (out ++ [(n1, d1)]).length = m + 1 by rw [List.length_append, HM.out]; rfl], rfl, by go_num, by omega, zH HPN.out, zH (by rw [show (out ++ [(n1, d1)]).length = m + 1 by rw [List.length_append, HM.out]; rfl, scells_snoc]; exact HO7.out), HRn⟩
            case measure => simp [intOf]; omega
        · go_wp2_with fail
          clear k3
          refine wp_region_quiet_all (fun w' => Below (World.heap wr).size (wr) w') (by kernel_rfl) (by kernel_rfl) (Below.refl _ _).drew ?_
          refine WQ.out ?_
          repeat (first | (refine WQ_no (by rfl) ?_; (simp only [Act.put, zzT, zzO, zzS])) | (refine WQ_yes (by rfl) ?_; apply Exists.intro; refine ⟨fun w1 hb1 => ?_, ?_⟩; (focus (((have k1 := ((HR0.out.trans (hb1.mono HR0.out.size)).cell (p := ⟨ba, oa + k * 2, none⟩) hba).trans h1.out; have k2 := ((HR0.out.trans (hb1.mono HR0.out.size)).cell (p := ⟨ba, oa + k * 2 + 1, none⟩) hba).trans h2.out; obtain ⟨-, k3, -⟩ := K3.out.to (HR0.out.trans (hb1.mono HR0.out.size))); have hb1 := zH hb1; go_simp); (try (go_bits; try go_simp)); (try (rw [if_pos (by omega)]; try go_simp)); (first | done | (with_reducible rfl) | exact rfl))); (simp only [Act.put, zzT, zzO, zzS])))
          refine WQ_nil ?_
          intro w1 hb1
          have HOw := zH (owns_to HO.out hb1)
          replace HR0 := zH (HR0.out.trans (hb1.mono HR0.out.size))
          clear hb1 HO
          go_wp2_with fail
          cases dn
          · cases lt
            · obtain ⟨wx, hwx⟩ : ∃ x, x = w1 := ⟨_, rfl⟩
              subst hwx
              refine wp_region_quiet_all (fun w' => Below (World.heap wx).size (wx) w') (by kernel_rfl) (by kernel_rfl) (Below.refl _ _).drew ?_
              refine WQ.out ?_
              repeat (first | (refine WQ_no (by rfl) ?_; (simp only [Act.put, zzT, zzO, zzS])) | (refine WQ_yes (by rfl) ?_; apply Exists.intro; refine ⟨fun w1 hb1 => ?_, ?_⟩; (focus (((have k1 := ((HR0.out.trans (hb1.mono HR0.out.size)).cell (p := ⟨ba, oa + k * 2, none⟩) hba).trans h1.out; have k2 := ((HR0.out.trans (hb1.mono HR0.out.size)).cell (p := ⟨ba, oa + k * 2 + 1, none⟩) hba).trans h2.out; obtain ⟨-, k3, -⟩ := K3.out.to (HR0.out.trans (hb1.mono HR0.out.size))); have hb1 := zH hb1; go_simp); (try (go_bits; try go_simp)); (try (rw [if_pos (by omega)]; try go_simp)); (first | done | ((go_at_call 130; refine (HLS.out _).mono ?_; rintro e w' ⟨rfl, hb⟩; exact ⟨rfl, bThen hb1.out hb⟩)) | (with_reducible rfl) | exact rfl))); (simp only [Act.put, zzT, zzO, zzS])))
              refine WQ_nil ?_
              intro w1 hb1
              replace HOw := zH (owns_to HOw.out hb1)
              have HRw := zH (HR0.out.trans (hb1.mono HR0.out.size))
              clear hb1 HR0 HLS
              have HPN := zH (HGK.out (.inr rfl))
              clear HGK HLK
              have HROW := zH (HOw.out.alloc (.cells #[.int .i64 n1, .bool d1] 46))
              have HNN := zH (Blk.new w1 #[.int .i64 n1, .bool d1] 46).news
              have hlo := zH HOw.out.lt
              have hsw : W.heap.size ≤ w1.heap.size := HRw.out.size
              have k1 := (HRw.out.cell (p := ⟨ba, oa + k * 2, none⟩) hba).trans h1.out
              have k2 := (HRw.out.cell (p := ⟨ba, oa + k * 2 + 1, none⟩) hba).trans h2.out
              obtain ⟨-, k3, -⟩ := K3.out.to HRw.out
              go_wp2_with (at_builtin; go_loud (refine wpList_app W.heap.size rtSt rfl (.tmp 35) (.tmp 40) rfl _ m _ rfl HROW.out ⟨w1.heap.size, 0, none⟩ 1 1 [.int .i64 n1, .bool d1] rfl rfl (by simpa using HNN.out) (onesS [(n1, d1)]) (by unfold maxLen; omega) (by omega) (by simp; omega) ?_; intro v' w7 hown' hgrow _ hwhere; obtain ⟨va', vc', rfl⟩ := ownsRow_sl hown'; have HO7 := zH hown'; have HG7 := zH hgrow; clear hown' hgrow hwhere k1 k2 k3))
              have HRn : Hid (Below W.heap.size W w7) := zH (HRw.out.trans (((Below.refl _ _).alloc hsw _).grown HG7.out (by simp; omega) (fun k e => (hlo.out k e).1)))
              go_roundw
              case rel => exact ⟨k + 1, va', vc', false, out ++ [(n1, d1)], by rw [show (out ++ [(n1, d1)]).length = m + 1 by rw [List.length_append, HM.out]; rfl], rfl, by go_num, by omega, zH HPN.out, zH (by rw [show (out ++ [(n1, d1)]).length = m + 1 by rw [List.length_append, HM.out]; rfl, scells_snoc]; exact HO7.out), HRn⟩
              case measure => simp [intOf]; omega
            · obtain ⟨wx, hwx⟩ : ∃ x, x = w1 := ⟨_, rfl⟩
              subst hwx
              refine wp_region_quiet_all (fun w' => Below (World.heap wx).size (wx) w') (by kernel_rfl) (by kernel_rfl) (Below.refl _ _).drew ?_
              refine WQ.out ?_
              repeat (first | (refine WQ_no (by rfl) ?_; (simp only [Act.put, zzT, zzO, zzS])) | (refine WQ_yes (by rfl) ?_; apply Exists.intro; refine ⟨fun w1 hb1 => ?_, ?_⟩; (focus (((have k1 := ((HR0.out.trans (hb1.mono HR0.out.size)).cell (p := ⟨ba, oa + k * 2, none⟩) hba).trans h1.out; have k2 := ((HR0.out.trans (hb1.mono HR0.out.size)).cell (p := ⟨ba, oa + k * 2 + 1, none⟩) hba).trans h2.out; obtain ⟨-, k3, -⟩ := K3.out.to (HR0.out.trans (hb1.mono HR0.out.size))); have hb1 := zH hb1; go_simp); (try (go_bits; try go_simp)); (try (rw [if_pos (by omega)]; try go_simp)); (first | done | ((go_at_call 130; refine (HLS.out _).mono ?_; rintro e w' ⟨rfl, hb⟩; exact ⟨rfl, bThen hb1.out hb⟩)) | (with_reducible rfl) | exact rfl))); (simp only [Act.put, zzT, zzO, zzS])))
              refine WQ_nil ?_
              intro w1 hb1
              replace HOw := zH (owns_to HOw.out hb1)
              have HRw := zH (HR0.out.trans (hb1.mono HR0.out.size))
              clear hb1 HR0 HLS
              have HPN := zH (HLK.out rfl rfl)
              clear HGK HLK
              have HROW := zH (HOw.out.alloc (.cells #[.int .i64 n1, .bool s2] 46))
              have HNN := zH (Blk.new w1 #[.int .i64 n1, .bool s2] 46).news
              have hlo := zH HOw.out.lt
              have hsw : W.heap.size ≤ w1.heap.size := HRw.out.size
              have k1 := (HRw.out.cell (p := ⟨ba, oa + k * 2, none⟩) hba).trans h1.out
              have k2 := (HRw.out.cell (p := ⟨ba, oa + k * 2 + 1, none⟩) hba).trans h2.out
              obtain ⟨-, k3, -⟩ := K3.out.to HRw.out
              go_upto_region 10 with (at_builtin; go_loud (refine wpList_app W.heap.size rtSt rfl (.tmp 31) (.tmp 33) rfl _ m _ rfl HROW.out ⟨w1.heap.size, 0, none⟩ 1 1 [.int .i64 n1, .bool s2] rfl rfl (by simpa using HNN.out) (onesS [(n1, s2)]) (by unfold maxLen; omega) (by omega) (by simp; omega) ?_; intro v' w6 hown' hgrow _ hwhere; obtain ⟨va', vc', rfl⟩ := ownsRow_sl hown'; have HO7 := zH hown'; have HG7 := zH hgrow; clear hown' hgrow hwhere k1 k2 k3))
              have HR6 : Hid (Below W.heap.size W w6) := zH (HRw.out.trans (((Below.refl _ _).alloc hsw _).grown HG7.out (by simp; omega) (fun k e => (hlo.out k e).1)))
              have HO6 := zH HO7.out
              replace HRw := zH HR6.out
              clear HR6 HROW HNN hlo hsw HOw HG7 HO7
              have HROW := zH (HO6.out.alloc (.cells #[.int .i64 n1, .bool d1] 46))
              have HNN := zH (Blk.new w6 #[.int .i64 n1, .bool d1] 46).news
              have hlo := zH HO6.out.lt
              have hsw : W.heap.size ≤ w6.heap.size := HRw.out.size
              have k1 := (HRw.out.cell (p := ⟨ba, oa + k * 2, none⟩) hba).trans h1.out
              have k2 := (HRw.out.cell (p := ⟨ba, oa + k * 2 + 1, none⟩) hba).trans h2.out
              obtain ⟨-, k3, -⟩ := K3.out.to HRw.out
              go_wp2_with (at_builtin; go_loud (refine wpList_app W.heap.size rtSt rfl (.tmp 35) (.tmp 40) rfl _ (m + 1) _ rfl HROW.out ⟨w6.heap.size, 0, none⟩ 1 1 [.int .i64 n1, .bool d1] rfl rfl (by simpa using HNN.out) (onesS [(n1, d1)]) (by unfold maxLen; omega) (by omega) (by simp; omega) ?_; intro v' w7 hown' hgrow _ hwhere; obtain ⟨va', vc', rfl⟩ := ownsRow_sl hown'; have HO7 := zH hown'; have HG7 := zH hgrow; clear hown' hgrow hwhere k1 k2 k3))
              have HRn : Hid (Below W.heap.size W w7) := zH (HRw.out.trans (((Below.refl _ _).alloc hsw _).grown HG7.out (by simp; omega) (fun k e => (hlo.out k e).1)))
              go_roundw
              case rel => exact ⟨k + 1, va', vc', true, out ++ [(n1, s2)] ++ [(n1, d1)], by rw [show (out ++ [(n1, s2)] ++ [(n1, d1)]).length = m + 1 + 1 by rw [List.length_append, List.length_append, HM.out]; rfl], rfl, by go_num, by omega, zH HPN.out, zH (by rw [show (out ++ [(n1, s2)] ++ [(n1, d1)]).length = m + 1 + 1 by rw [List.length_append, List.length_append, HM.out]; rfl, scells_snoc, scells_snoc]; exact HO7.out), HRn⟩
              case measure => simp [intOf]; omega
          · obtain ⟨wx, hwx⟩ : ∃ x, x = w1 := ⟨_, rfl⟩
            subst hwx
            refine wp_region_quiet_all (fun w' => Below (World.heap wx).size (wx) w') (by kernel_rfl) (by kernel_rfl) (Below.refl _ _).drew ?_
            refine WQ.out ?_
            repeat (first | (refine WQ_no (by rfl) ?_; (simp only [Act.put, zzT, zzO, zzS])) | (refine WQ_yes (by rfl) ?_; apply Exists.intro; refine ⟨fun w1 hb1 => ?_, ?_⟩; (focus (((have k1 := ((HR0.out.trans (hb1.mono HR0.out.size)).cell (p := ⟨ba, oa + k * 2, none⟩) hba).trans h1.out; have k2 := ((HR0.out.trans (hb1.mono HR0.out.size)).cell (p := ⟨ba, oa + k * 2 + 1, none⟩) hba).trans h2.out; obtain ⟨-, k3, -⟩ := K3.out.to (HR0.out.trans (hb1.mono HR0.out.size))); have hb1 := zH hb1; go_simp); (try (go_bits; try go_simp)); (try (rw [if_pos (by omega)]; try go_simp)); (first | done | (with_reducible rfl) | exact rfl))); (simp only [Act.put, zzT, zzO, zzS])))
            refine WQ_nil ?_
            intro w1 hb1
            replace HOw := zH (owns_to HOw.out hb1)
            have HRw := zH (HR0.out.trans (hb1.mono HR0.out.size))
            clear hb1 HR0 HLS
            have HPN := zH (HGK.out (.inl rfl))
            clear HGK HLK
            have HROW := zH (HOw.out.alloc (.cells #[.int .i64 n1, .bool d1] 46))
            have HNN := zH (Blk.new w1 #[.int .i64 n1, .bool d1] 46).news
            have hlo := zH HOw.out.lt
            have hsw : W.heap.size ≤ w1.heap.size := HRw.out.size
            have k1 := (HRw.out.cell (p := ⟨ba, oa + k * 2, none⟩) hba).trans h1.out
            have k2 := (HRw.out.cell (p := ⟨ba, oa + k * 2 + 1, none⟩) hba).trans h2.out
            obtain ⟨-, k3, -⟩ := K3.out.to HRw.out
            go_wp2_with (at_builtin; go_loud (refine wpList_app W.heap.size rtSt rfl (.tmp 35) (.tmp 40) rfl _ m _ rfl HROW.out ⟨w1.heap.size, 0, none⟩ 1 1 [.int .i64 n1, .bool d1] rfl rfl (by simpa using HNN.out) (onesS [(n1, d1)]) (by unfold maxLen; omega) (by omega) (by simp; omega) ?_; intro v' w7 hown' hgrow _ hwhere; obtain ⟨va', vc', rfl⟩ := ownsRow_sl hown'; have HO7 := zH hown'; have HG7 := zH hgrow; clear hown' hgrow hwhere k1 k2 k3))
            have HRn : Hid (Below W.heap.size W w7) := zH (HRw.out.trans (((Below.refl _ _).alloc hsw _).grown HG7.out (by simp; omega) (fun k e => (hlo.out k e).1)))
            go_roundw
            case rel => exact ⟨k + 1, va', vc', true, out ++ [(n1, d1)], by rw [show (out ++ [(n1, d1)]).length = m + 1 by rw [List.length_append, HM.out]; rfl], rfl, by go_num, by omega, zH HPN.out, zH (by rw [show (out ++ [(n1, d1)]).length = m + 1 by rw [List.length_append, HM.out]; rfl, scells_snoc]; exact HO7.out), HRn⟩
            case measure => simp [intOf]; omega
    · obtain rfl : n = k := by omega
      have hf := HFN.out dn out HP.out
      have HOw := zH HO.out
      have HRw := zH HR0.out
      cases dn with
      | true =>
        rw [if_pos rfl] at hf
        obtain ⟨a', cap', e, hcp, hrd, hfr⟩ := Reads.of_row (f := osts out) HOw.out (fun i hi => scells_get out i (by rw [HM.out]; exact hi))
        cases e
        go_wp2_with fail
        go_ret
        refine ⟨va, vc, ?_, ?_, ?_, bThen HB.out HRw.out⟩
        · rw [hf, HM.out]; rfl
        · rw [hf, HM.out]; exact hcp
        · rw [hf, HM.out]; exact hrd
      | false =>
        rw [if_neg (by decide)] at hf
        have HROW := zH (HOw.out.alloc (.cells #[.int .i64 s1, .bool s2] 46))
        have HNN := zH (Blk.new wr #[.int .i64 s1, .bool s2] 46).news
        have hlo := zH HOw.out.lt
        have hsw : W.heap.size ≤ wr.heap.size := HRw.out.size
        have hll : (out ++ [(s1, s2)]).length = m + 1 := by rw [List.length_append, HM.out]; rfl
        have HLL := zH hll
        clear hll
        go_wp2_with (at_builtin; go_loud (refine wpList_app W.heap.size rtSt rfl (.tmp 44) (.tmp 46) rfl _ m _ rfl HROW.out ⟨wr.heap.size, 0, none⟩ 1 1 [.int .i64 s1, .bool s2] rfl rfl (by simpa using HNN.out) (onesS [(s1, s2)]) (by unfold maxLen; omega) (by omega) (by simp; omega) ?_; intro v' w7 hown' hgrow _ hwhere; obtain ⟨va', vc', rfl⟩ := ownsRow_sl hown'; have HO7 := zH hown'; have HG7 := zH hgrow; clear hown' hgrow hwhere k3))
        have HRn : Hid (Below W.heap.size W w7) := zH (HRw.out.trans (((Below.refl _ _).alloc hsw _).grown HG7.out (by simp; omega) (fun k e => (hlo.out k e).1)))
        have hrow := HO7.out
        have hsc : scells out ++ [.int .i64 s1, .bool s2] = scells (out ++ [(s1, s2)]) := (scells_snoc out (s1, s2)).symm
        rw [hsc] at hrow
        obtain ⟨a', cap', e, hcp, hrd, hfr⟩ := Reads.of_row (f := osts (out ++ [(s1, s2)])) hrow (fun i hi => scells_get _ i (by rw [HLL.out]; exact hi))
        cases e
        go_ret
        refine ⟨va', vc', ?_, ?_, ?_, bThen HB.out HRn.out⟩
        · rw [hf, HLL.out]; rfl
        · rw [hf, HLL.out]; exact hcp
        · rw [hf, HLL.out]; exact hrd
end
section
open Go.RowKit
attribute [local go_sem] Oper.semAt_some

/-- One demand after one state. -/
def aftF (p : Plt) (s : OSt) (o : List OSt) (n : Int) : List OSt := match nxtA p s n with | none => o | some t => putS o t
def aftG (p : Plt) (r : Int × Int) (o : List OSt) (s : OSt) : List OSt := (rngL r).foldl (aftF p s) o
theorem putS_len (s : OSt) : ∀ l : List OSt, (putS l s).length ≤ l.length + 1
  | [] => by simp [putS]
  | x :: l => by
    rw [putS_cons]
    split
    · simp
    · split
      · simp
      · have := putS_len s l
        simp only [List.length_cons]
        omega
theorem rngL_drop {r : Int × Int} {j : Nat} (h : r.1 + (j : Int) ≤ r.2) : (rngL r).drop j = (r.1 + (j : Int)) :: (rngL r).drop (j + 1) := by
  have hl : j < (rngL r).length := by unfold rngL; rw [List.length_map, List.length_range]; omega
  rw [List.drop_eq_getElem_cons hl]
  congr 1
  simp [rngL]
theorem rngL_end {r : Int × Int} {j : Nat} (h : r.2 < r.1 + (j : Int)) : (rngL r).drop j = [] := by
  refine List.drop_eq_nil_of_le ?_
  unfold rngL
  rw [List.length_map, List.length_range]
  omega
def nnB (p : Plt) (s : OSt) (n : Int) : Bool := (nxtA p s n).isNone
/-- Within a state: the demands so far. -/
structure AfI (p : Plt) (r : Int × Int) (l : List OSt) (i j : Nat) (o : List OSt) (wh : Bool) : Prop where
  eq : aftR p r l = (l.drop (i + 1)).foldl (aftG p r) (((rngL r).drop j).foldl (aftF p (sg l i)) o)
  em : EmpB p r l = (!wh || ((rngL r).drop j).any (nnB p (sg l i)) || EmpB p r (l.drop (i + 1)))
  srt : SrtS o
  len : o.length ≤ 51 * i + j
/-- Between states. -/
structure AfO (p : Plt) (r : Int × Int) (l : List OSt) (i : Nat) (o : List OSt) (wh : Bool) : Prop where
  eq : aftR p r l = (l.drop i).foldl (aftG p r) o
  em : EmpB p r l = (!wh || EmpB p r (l.drop i))
  srt : SrtS o
  len : o.length ≤ 51 * i
theorem AfO.start (p : Plt) (r : Int × Int) (l : List OSt) : AfO p r l 0 [] true := ⟨rfl, by simp, List.Pairwise.nil, by simp⟩
theorem AfO.into {p : Plt} {r : Int × Int} {l : List OSt} {i : Nat} {o : List OSt} {wh : Bool} (h : AfO p r l i o wh) (hi : i < l.length) : AfI p r l i 0 o wh := by
  refine ⟨?_, ?_, h.srt, by have := h.len; omega⟩
  · rw [h.eq, drop_sg hi, List.foldl_cons]
    rfl
  · rw [h.em, drop_sg hi]
    unfold EmpB
    rw [List.any_cons, Bool.or_assoc]
    rfl
theorem AfI.out {p : Plt} {r : Int × Int} {l : List OSt} {i j : Nat} {o : List OSt} {wh : Bool} (h : AfI p r l i j o wh) (hj : r.2 < r.1 + (j : Int)) (hj2 : j ≤ 51) : AfO p r l (i + 1) o wh := by
  have e := rngL_end hj
  refine ⟨?_, ?_, h.srt, by have := h.len; omega⟩
  · rw [h.eq, e]; rfl
  · rw [h.em, e]; simp
theorem AfI.none {p : Plt} {r : Int × Int} {l : List OSt} {i j : Nat} {o : List OSt} {wh : Bool} (h : AfI p r l i j o wh) (hj : r.1 + (j : Int) ≤ r.2) (hn : nxtA p (sg l i) (r.1 + (j : Int)) = none) : AfI p r l i (j + 1) o false := by
  refine ⟨?_, ?_, h.srt, by have := h.len; omega⟩
  · rw [h.eq, rngL_drop hj, List.foldl_cons]
    unfold aftF
    rw [hn]
  · rw [h.em, rngL_drop hj, List.any_cons]
    unfold nnB
    rw [hn]
    simp
theorem AfI.some {p : Plt} {r : Int × Int} {l : List OSt} {i j : Nat} {o : List OSt} {wh : Bool} {t : OSt} (h : AfI p r l i j o wh) (hj : r.1 + (j : Int) ≤ r.2) (hn : nxtA p (sg l i) (r.1 + (j : Int)) = some t) : AfI p r l i (j + 1) (putS o t) wh := by
  refine ⟨?_, ?_, srt_putS h.srt, by have := h.len; have := putS_len t o; omega⟩
  · rw [h.eq, rngL_drop hj, List.foldl_cons]
    have : aftF p (sg l i) o (r.1 + (j : Int)) = putS o t := by unfold aftF; rw [hn]
    rw [this]
  · rw [h.em, rngL_drop hj, List.any_cons]
    have : nnB p (sg l i) (r.1 + (j : Int)) = false := by unfold nnB; rw [hn]; rfl
    rw [this, Bool.false_or]
theorem AfO.fin {p : Plt} {r : Int × Int} {l : List OSt} {o : List OSt} {wh : Bool} (h : AfO p r l l.length o wh) : aftR p r l = o ∧ (!EmpB p r l) = wh := by
  refine ⟨?_, ?_⟩
  · rw [h.eq, List.drop_length]; rfl
  · rw [h.em, List.drop_length]
    unfold EmpB
    simp

def AftPost (p : Plt) (r : Int × Int) (l : List OSt) (w : World) (e : Ending) (w' : World) : Prop :=
  ∃ a' c', e = .returned (.tuple #[.slice a' (aftR p r l).length c', .bool (!EmpB p r l)]) ∧ (aftR p r l).length ≤ c' ∧ Reads w' a' ((aftR p r l).length * 2) (osts (aftR p r l)) ∧ Below w.heap.size w w'

set_option maxHeartbeats 12800000 in
set_option maxRecDepth 100000 in
theorem rAfter_any (p : Plt) (r : Int × Int) (l : List OSt) (a al : Option Addr) (cap cl : Nat) (w : World) (hp : PltOk p) (hrg : 0 ≤ r.1 ∧ r.2 ≤ 50) (hst : ∀ k, k < l.length → StOk p (sg l k)) (hlen : l.length ≤ 1000) (hr : Reads w a (p.pts.length * 2) (fracs p.pts)) (hrl : Reads w al (l.length * 2) (osts l)) :
    Calls Tryz.prog 149 #[.agg (plC p a cap), .slice al l.length cl, .agg #[.int .i64 r.1, .int .i64 r.2]] w (AftPost p r l w) := by
  have HNX := zH (fun W k (hk : k < l.length) d (hd : 0 ≤ d ∧ d ≤ 50) (hb : Below w.heap.size w W) => rnNext_any p (sg l k) d a cap W hp (hst k hk) hd (hr.to hb))
  have HA := zH hrl
  have HIN := zH (fun i o wh (h : AfO p r l i o wh) hi => h.into hi)
  have HOUT := zH (fun i j o wh (h : AfI p r l i j o wh) hj hj2 => h.out hj hj2)
  have HNO := zH (fun i j o wh (h : AfI p r l i j o wh) hj hn => h.none hj hn)
  have HSO := zH (fun i j o wh t (h : AfI p r l i j o wh) hj hn => h.some (t := t) hj hn)
  have HFN := zH (fun o wh (h : AfO p r l l.length o wh) => h.fin)
  have HST := zH (AfO.start p r l)
  obtain ⟨n, hn⟩ : ∃ n, l.length = n := ⟨_, rfl⟩
  rw [hn] at HNX HA HIN HFN hlen ⊢
  obtain ⟨r1, r2⟩ := r
  obtain ⟨hr0, hr1⟩ := hrg
  dsimp only at hr0 hr1 HOUT HNO HSO ⊢
  unfold plC at HNX ⊢
  clear hr hrl hn hst
  go_enter Tryz.func149, Tryz.ntmps149
  go_wp2_with fail
  obtain ⟨W, hW⟩ : ∃ W, (w.alloc (.cells #[.slice a p.pts.length cap, .int .i64 p.pump, .int .i64 p.on, .int .i64 p.off] 44)).alloc (.cells #[.int .i64 r1, .int .i64 r2] 25) = W := ⟨_, rfl⟩
  rw [hW]
  have K3 : Hid (Blk W w.heap.size #[.slice a p.pts.length cap, .int .i64 p.pump, .int .i64 p.on, .int .i64 p.off]) := by subst hW; exact zH ((Blk.new _ _ _).alloc _)
  have K5 : Hid (Blk W (w.heap.size + 1) #[.int .i64 r1, .int .i64 r2]) := by subst hW; exact zH (Blk.newAt _ _ _ (by simp))
  have HB : Hid (Below w.heap.size w W) := by subst hW; exact zH (bAlloc (bAlloc (bSelf w) _) _)
  replace HA := zH (HA.out.to HB.out)
  clear hW
  go_loopw [8, 9, 10, 11, 12, 13] (fun s8 s9 s10 _ _ _ wr => ∃ (i : Nat) (va : Option Addr) (vc : Nat) (wh : Bool) (o : List OSt), s8 = .slice va o.length vc ∧ s9 = .bool wh ∧ s10 = .int .i64 i ∧ i ≤ n ∧ o.length ≤ vc ∧ Hid (AfO p (r1, r2) l i o wh) ∧ Hid (Reads wr va (o.length * 2) (osts o)) ∧ Hid (Below W.heap.size W wr)) (fun _ _ s10 _ _ _ _ => n - (intOf s10).toNat)
  case atStart => exact ⟨0, none, 0, true, [], rfl, rfl, rfl, Nat.zero_le _, Nat.zero_le _, HST, zH (.inl rfl), zH (bSelf W)⟩
  case round =>
    obtain ⟨i, va, vc, wh, o, rfl, rfl, rfl, hi, hvc, HP, HRo, HR0⟩ := hrel
    by_cases hlt : i < n
    · have HPI := zH (HIN.out i o wh HP.out hlt)
      obtain ⟨wv, hwv⟩ : ∃ wv, wv = wr := ⟨_, rfl⟩
      subst hwv
      obtain ⟨ba, oa, rfl, hba, hca⟩ := HA.out.at (k := i * 2) (by omega)
      obtain ⟨⟨n1, d1⟩, hz⟩ : ∃ q, sg l i = q := ⟨_, rfl⟩
      have h1 : Hid (W.cell? ⟨ba, oa + i * 2, none⟩ = some (.int .i64 n1)) := zH (by rw [hca _ (by omega), osts0, hz])
      have h2 : Hid (W.cell? ⟨ba, oa + i * 2 + 1, none⟩ = some (.bool d1)) := zH (by rw [Nat.add_assoc, hca _ (by omega), osts1, hz])
      have HNK := zH (fun W d hd hb => HNX.out W i hlt d hd hb)
      have HOK := zH (fun j o wh h hj hj2 => HOUT.out i j o wh h hj hj2)
      have HNOK := zH (fun j o wh h hj hn => HNO.out i j o wh h hj hn)
      have HSOK := zH (fun j o wh t h hj hn => HSO.out i j o wh t h hj hn)
      rw [hz] at HNK HNOK HSOK
      dsimp only at HNK
      clear hca hz HNX HOUT HNO HSO HFN HST HIN HP
      obtain ⟨-, k5, -⟩ := K5.out.to HR0.out
      go_wp2_with fail
      clear k5
      go_loopw [8, 9, 11, 12, 13] (fun s8 s9 s11 _ _ wr => ∃ (j : Nat) (va : Option Addr) (vc : Nat) (wh : Bool) (o : List OSt), s8 = .slice va o.length vc ∧ s9 = .bool wh ∧ s11 = .int .i64 (r1 + (j : Int)) ∧ j ≤ 51 ∧ o.length ≤ vc ∧ Hid (AfI p (r1, r2) l i j o wh) ∧ Hid (Reads wr va (o.length * 2) (osts o)) ∧ Hid (Below W.heap.size W wr)) (fun _ _ s11 _ _ _ => (r2 + 1 - intOf s11).toNat)
      case atStart => exact ⟨0, va, vc, wh, o, rfl, rfl, by go_num, Nat.zero_le _, hvc, HPI, HRo, HR0⟩
      case round =>
        clear HPI HRo HR0 hvc
        obtain ⟨j, va, vc, wh, o, rfl, rfl, rfl, hj, hvc, HP, HRo, HR0⟩ := hrel
        obtain ⟨-, k5, -⟩ := K5.out.to HR0.out
        by_cases hle : r1 + (j : Int) ≤ r2
        · obtain ⟨d, hd⟩ : ∃ d, r1 + (j : Int) = d := ⟨_, rfl⟩
          have hd0 : 0 ≤ d := by omega
          have hd1 : d ≤ 50 := by omega
          have HNN := zH (fun h => HNOK.out j o wh HP.out hle h)
          have HSS := zH (fun t h => HSOK.out j o wh t HP.out hle h)
          have HND := zH (fun W hb => HNK.out W d ⟨hd0, hd1⟩ hb)
          have HSR := zH HP.out.srt
          have HLN := zH HP.out.len
          have HDD : Hid (d + 1 = r1 + ((j + 1 : Nat) : Int)) := zH (by omega)
          have hdr : d ≤ r2 := by omega
          have hjn : j + 1 ≤ 51 := by omega
          rw [hd] at HNN HSS ⊢
          clear hd hle
          obtain ⟨nx, hnx⟩ : ∃ x, nxtA p (n1, d1) d = x := ⟨_, rfl⟩
          rw [hnx] at HND HNN HSS
          clear hnx HP HNOK HSOK HNK HOK
          obtain ⟨⟨t1, t2⟩, ht⟩ : ∃ x, nx.getD (0, false) = x := ⟨_, rfl⟩
          have HT := zH ht
          rw [ht] at HND
          dsimp only at HND
          clear ht
          obtain ⟨wu, hwu⟩ : ∃ wu, wu = wr := ⟨_, rfl⟩
          subst hwu
          go_wp2_with fail
          clear k5
          go_cut [12, 13] from 28 to 37 (fun s12 s13 wc => ∃ B, s12 = .pointer (some ⟨B, 0, none⟩) ∧ s13 = .bool nx.isSome ∧ Hid (Blk wc B #[.int .i64 t1, .bool t2]) ∧ Hid (Below wu.heap.size wu wc))
          case first =>
            have K3u := zH (K3.out.to HR0.out)
            have hbu : ba < wu.heap.size := Nat.lt_of_lt_of_le hba HR0.out.size
            have C0 : Hid (wu.cell? ⟨ba, oa + i * 2, none⟩ = some (.int .i64 n1)) := zH ((HR0.out.cell (p := ⟨ba, oa + i * 2, none⟩) hba).trans h1.out)
            have C1 : Hid (wu.cell? ⟨ba, oa + i * 2 + 1, none⟩ = some (.bool d1)) := zH ((HR0.out.cell (p := ⟨ba, oa + i * 2 + 1, none⟩) hba).trans h2.out)
            have HBu := zH (bThen HB.out HR0.out)
            refine wp_region_tree (by kernel_rfl) (fun wd hwd => ?_)
            have T := zH hwd
            clear hwd
            refine WTq 0 ?_; apply Exists.intro; refine ⟨fun w1 hb1 => ?_, ?_⟩; (focus (((obtain ⟨-, k3, -⟩ := K3u.out.to (T.out.trans hb1)); have hb1 := zH hb1; go_simp); (try (go_bits; try go_simp)); (try (rw [if_pos (by omega)]; try go_simp)); (first | done | (with_reducible rfl) | exact rfl)))
            simp only [Act.put, zzT, zzO, zzS]
            refine WTq 1 ?_; apply Exists.intro; refine ⟨fun w1 hb1 => ?_, ?_⟩; (focus ((have hb1 := zH hb1; go_simp); (try (go_bits; try go_simp)); (try (rw [if_pos (by omega)]; try go_simp)); (first | done | (with_reducible rfl) | exact rfl)))
            simp only [Act.put, zzT, zzO, zzS]
            refine WTq 2 ?_; apply Exists.intro; refine ⟨fun w1 hb1 => ?_, ?_⟩; (focus ((have hb1 := zH hb1; go_simp); (try (go_bits; try go_simp)); (try (rw [if_pos (by omega)]; try go_simp)); (first | done | (with_reducible rfl) | exact rfl)))
            simp only [Act.put, zzT, zzO, zzS]
            refine WTq 3 ?_; apply Exists.intro; refine ⟨fun w1 hb1 => ?_, ?_⟩; (focus ((have hb1 := zH hb1; go_simp); (try (go_bits; try go_simp)); (try (rw [if_pos (by omega)]; try go_simp)); (first | done | (with_reducible rfl) | exact rfl)))
            simp only [Act.put, zzT, zzO, zzS]
            refine WTq 4 ?_; apply Exists.intro; refine ⟨fun w1 hb1 => ?_, ?_⟩; (focus (((have c0 := ((T.out.trans hb1).cell (p := ⟨ba, oa + i * 2, none⟩) hbu).trans C0.out; have c1 := ((T.out.trans hb1).cell (p := ⟨ba, oa + i * 2 + 1, none⟩) hbu).trans C1.out); have hb1 := zH hb1; go_simp); (try (go_bits; try go_simp)); (try (rw [if_pos (by omega)]; try go_simp)); (first | done | (with_reducible rfl) | exact rfl)))
            simp only [Act.put, zzT, zzO, zzS]
            refine WTq 5 ?_; apply Exists.intro; refine ⟨fun w1 hb1 => ?_, ?_⟩; (focus ((have hb1 := zH hb1; go_simp); (try (go_bits; try go_simp)); (try (rw [if_pos (by omega)]; try go_simp)); (first | done | (with_reducible rfl) | exact rfl)))
            simp only [Act.put, zzT, zzO, zzS]
            refine WT_two 6 10 rfl rfl (by kernel_rfl) ?_ ?_
            · unfold stepT
              go_wp2_with fail
              refine (HND.out _ (bThen HBu.out T.out)).mono ?_
              rintro e u1 ⟨rfl, hb⟩
              have hbd := zH (hb.mono T.out.size)
              replace T := zH (bThen T.out hb)
              clear hb
              go_wp2_with fail
              refine ⟨hbd.out, ?_⟩
              clear hbd
              refine WTq 7 ?_; apply Exists.intro; refine ⟨fun w1 hb1 => ?_, ?_⟩; (focus ((have hb1 := zH hb1; go_simp); (try (go_bits; try go_simp)); (try (rw [if_pos (by omega)]; try go_simp)); (first | done | (with_reducible rfl) | exact rfl)))
              simp only [Act.put, zzT, zzO, zzS]
              refine WTq 8 ?_; apply Exists.intro; refine ⟨fun w1 hb1 => ?_, ?_⟩; (focus ((have hb1 := zH hb1; go_simp); (try (go_bits; try go_simp)); (try (rw [if_pos (by omega)]; try go_simp)); (first | done | (with_reducible rfl) | exact rfl)))
              simp only [Act.put, zzT, zzO, zzS]
              refine WTq 9 ?_; apply Exists.intro; refine ⟨fun w1 hb1 => ?_, ?_⟩; (focus ((have hb1 := zH hb1; go_simp); (try (go_bits; try go_simp)); (try (rw [if_pos (by omega)]; try go_simp)); (first | done | (with_reducible rfl) | exact rfl)))
              simp only [Act.put, zzT, zzO, zzS]
              refine WT_one 10 rfl (by kernel_rfl) ?_
              unfold stepT
              go_wp2_with fail
              obtain ⟨u2, hwA⟩ : ∃ wA, u1.alloc (.cells #[.int .i64 0, .bool false] 46) = wA := ⟨_, rfl⟩
              rw [hwA]
              have hb : Below u1.heap.size u1 u2 := by subst hwA; exact bAlloc (bSelf _) _
              have KBN : Hid (Blk u2 u1.heap.size #[.int .i64 0, .bool false]) := by subst hwA; exact Blk.new _ _ _
              clear hwA
              have BNN : Hid (wu.heap.size ≤ u1.heap.size) := zH T.out.size
              obtain ⟨BN, hBN⟩ : ∃ N, u1.heap.size = N := ⟨_, rfl⟩
              have hbd := zH (hb.mono T.out.size)
              replace T := zH (bThen T.out hb)
              clear hb
              rw [hBN] at KBN BNN  ⊢
              clear hBN
              refine ⟨hbd.out, ?_⟩
              clear hbd
              refine WT_one 11 rfl (by kernel_rfl) ?_
              unfold stepT
              obtain ⟨-, kx, fx⟩ := KBN.out
              go_wp2_with fail
              clear kx fx
              obtain ⟨u3, hu⟩ : ∃ u, (u2.setCell ⟨BN, 0, none⟩ (.int .i64 t1)).setCell ⟨BN, 1, none⟩ (.bool t2) = u := ⟨_, rfl⟩
              have hb : Below wu.heap.size u2 u3 := by rw [← hu]; exact ((Below.refl _ _).setCell (p := ⟨BN, 0, none⟩) BNN.out _).setCell (p := ⟨BN, 1, none⟩) BNN.out _
              replace KBN := zH ((KBN.out.set 0 (.int .i64 t1)).set 1 (.bool t2))
              rw [hu] at KBN ⊢
              clear hu
              replace T := zH (T.out.trans hb)
              refine ⟨hb, ?_⟩
              clear hb
              refine WTq 12 ?_; apply Exists.intro; refine ⟨fun w1 hb1 => ?_, ?_⟩; (focus ((have hb1 := zH hb1; go_simp); (try (go_bits; try go_simp)); (try (rw [if_pos (by omega)]; try go_simp)); (first | done | (with_reducible rfl) | exact rfl)))
              simp only [Act.put, zzT, zzO, zzS]
              refine WT_done (by kernel_rfl) ?_
              go_wp2_with fail
              go_meet
              case rel => exact ⟨BN, rfl, rfl, KBN, T⟩
            · unfold stepT
              go_wp2_with fail
              obtain ⟨u1, hwA⟩ : ∃ wA, wd.alloc (.cells #[.int .i64 0, .bool false] 46) = wA := ⟨_, rfl⟩
              rw [hwA]
              have hb : Below wd.heap.size wd u1 := by subst hwA; exact bAlloc (bSelf _) _
              have KBN : Hid (Blk u1 wd.heap.size #[.int .i64 0, .bool false]) := by subst hwA; exact Blk.new _ _ _
              clear hwA
              have BNN : Hid (wu.heap.size ≤ wd.heap.size) := zH T.out.size
              obtain ⟨BN, hBN⟩ : ∃ N, wd.heap.size = N := ⟨_, rfl⟩
              have hbd := zH (hb.mono T.out.size)
              replace T := zH (bThen T.out hb)
              clear hb
              rw [hBN] at KBN BNN  ⊢
              clear hBN
              refine ⟨hbd.out, ?_⟩
              clear hbd
              refine WT_one 6 rfl (by kernel_rfl) ?_
              unfold stepT
              go_wp2_with fail
              refine (HND.out _ (bThen HBu.out T.out)).mono ?_
              rintro e u2 ⟨rfl, hb⟩
              replace KBN := zH (KBN.out.to hb)
              have hbd := zH (hb.mono T.out.size)
              replace T := zH (bThen T.out hb)
              clear hb
              go_wp2_with fail
              refine ⟨hbd.out, ?_⟩
              clear hbd
              refine WTq 7 ?_; apply Exists.intro; refine ⟨fun w1 hb1 => ?_, ?_⟩; (focus ((have hb1 := zH hb1; go_simp); (try (go_bits; try go_simp)); (try (rw [if_pos (by omega)]; try go_simp)); (first | done | (with_reducible rfl) | exact rfl)))
              simp only [Act.put, zzT, zzO, zzS]
              refine WTq 8 ?_; apply Exists.intro; refine ⟨fun w1 hb1 => ?_, ?_⟩; (focus ((have hb1 := zH hb1; go_simp); (try (go_bits; try go_simp)); (try (rw [if_pos (by omega)]; try go_simp)); (first | done | (with_reducible rfl) | exact rfl)))
              simp only [Act.put, zzT, zzO, zzS]
              refine WTq 9 ?_; apply Exists.intro; refine ⟨fun w1 hb1 => ?_, ?_⟩; (focus ((have hb1 := zH hb1; go_simp); (try (go_bits; try go_simp)); (try (rw [if_pos (by omega)]; try go_simp)); (first | done | (with_reducible rfl) | exact rfl)))
              simp only [Act.put, zzT, zzO, zzS]
              refine WT_one 11 rfl (by kernel_rfl) ?_
              unfold stepT
              obtain ⟨-, kx, fx⟩ := KBN.out
              go_wp2_with fail
              clear kx fx
              obtain ⟨u3, hu⟩ : ∃ u, (u2.setCell ⟨BN, 0, none⟩ (.int .i64 t1)).setCell ⟨BN, 1, none⟩ (.bool t2) = u := ⟨_, rfl⟩
              have hb : Below wu.heap.size u2 u3 := by rw [← hu]; exact ((Below.refl _ _).setCell (p := ⟨BN, 0, none⟩) BNN.out _).setCell (p := ⟨BN, 1, none⟩) BNN.out _
              replace KBN := zH ((KBN.out.set 0 (.int .i64 t1)).set 1 (.bool t2))
              rw [hu] at KBN ⊢
              clear hu
              replace T := zH (T.out.trans hb)
              refine ⟨hb, ?_⟩
              clear hb
              refine WTq 12 ?_; apply Exists.intro; refine ⟨fun w1 hb1 => ?_, ?_⟩; (focus ((have hb1 := zH hb1; go_simp); (try (go_bits; try go_simp)); (try (rw [if_pos (by omega)]; try go_simp)); (first | done | (with_reducible rfl) | exact rfl)))
              simp only [Act.put, zzT, zzO, zzS]
              refine WT_done (by kernel_rfl) ?_
              go_wp2_with fail
              go_meet
              case rel => exact ⟨BN, rfl, rfl, KBN, T⟩
          obtain ⟨wz, hwz⟩ : ∃ wo, wo = wc := ⟨_, rfl⟩
          subst hwz
          obtain ⟨B12, rfl, rfl, K12, hb⟩ := hcut
          replace hb := hb.out
          replace HRo := zH (HRo.out.to hb)
          replace HR0 := zH (HR0.out.trans (hb.mono HR0.out.size))
          clear hb HND
          cases nx with
          | none =>
            have HPN := zH (HNN.out rfl)
            clear HNN HSS
            go_wp2_with fail
            go_roundw
            case rel => exact ⟨j + 1, va, vc, false, o, rfl, rfl, by rw [← HDD.out], hjn, hvc, HPN, HRo, HR0⟩
            case measure => simp [intOf]; omega
          | some t =>
            have HPN := zH (HSS.out t rfl)
            have hte : t = (t1, t2) := HT.out
            subst hte
            have HPU := zH (fun W hR => rPut_any o (t1, t2) va vc W (by have := HLN.out; omega) hvc HSR.out hR)
            unfold PutPost at HPU
            dsimp only at HPU
            clear HNN HSS
            obtain ⟨-, k12, -⟩ := K12.out
            go_wp2_with fail
            clear k12
            refine (HPU.out _ HRo.out).mono ?_
            rintro e w9 ⟨a', c', rfl, hc', hrd, hb⟩
            replace HR0 := zH (HR0.out.trans (hb.mono HR0.out.size))
            have HRn := zH hrd
            clear hb hrd HPU
            go_wp2_with fail
            go_roundw
            case rel => exact ⟨j + 1, a', c', wh, putS o (t1, t2), rfl, rfl, by rw [← HDD.out], hjn, hc', HPN, HRn, HR0⟩
            case measure => simp [intOf]; omega
        · have HPO := zH (HOK.out j o wh HP.out (by omega) hj)
          have hle2 : r2 < r1 + (j : Int) := by omega
          clear HP HNOK HSOK HNK HOK
          obtain ⟨d, hd⟩ : ∃ d, r1 + (j : Int) = d := ⟨_, rfl⟩
          rw [hd] at hle2 ⊢
          clear hd hle
          go_wp2_with fail
          go_roundw
          case rel => exact ⟨i + 1, va, vc, wh, o, rfl, rfl, by go_num, by omega, hvc, HPO, HRo, HR0⟩
          case measure => simp [intOf]; omega
    · obtain rfl : n = i := by omega
      obtain ⟨e1, e2⟩ := HFN.out o wh HP.out
      go_wp2_with fail
      go_ret2
      refine ⟨va, vc, ?_, ?_, ?_, bThen HB.out HR0.out⟩
      · rw [e1, e2]; rfl
      · rw [e1]; exact hvc
      · rw [e1]; exact HRo.out
end
section
open Go.RowKit
theorem one_reads {W : World} {b : Nat} {s : OSt} (h : Blk W b #[.int .i64 s.1, .bool s.2]) : Reads W (some ⟨b, 0, none⟩) (1 * 2) (osts [s]) := by
  refine .inr ⟨b, 0, rfl, h.1, fun i hi => ?_⟩
  rw [h.2.1 (0 + i)]
  have hc : i = 0 ∨ i = 1 := by omega
  rcases hc with rfl | rfl <;> rfl
end
section
open Go.RowKit

theorem eachR_nil {err : Nat → Int} : ∀ (n k : Nat), (∀ j, k ≤ j → j < k + n → err j = 0) → (eachR err k n).2 = 0
  | 0, _, _ => rfl
  | n + 1, k, h => by
    have h0 := h k (Nat.le_refl _) (by omega)
    have h1 := eachR_step (err := err) (k := k) (n := k + (n + 1)) (by omega) h0
    rw [show k + (n + 1) - k = n + 1 by omega, show k + (n + 1) - (k + 1) = n by omega] at h1
    rw [h1]
    exact eachR_nil n (k + 1) (fun j h2 h3 => h j (by omega) (by omega))
theorem rgE_of {r : Int × Int} (h0 : 0 ≤ r.1) (h1 : r.2 ≤ 50) (h2 : r.1 ≤ r.2) : rgE r = 0 :=
  firstE2.2 ⟨by rw [unlZ (by decide)]; simp only [Bool.and_eq_true, wthn_iff]; omega, by rw [unlZ (by decide), decide_eq_true_eq]; exact h2⟩
end
section
open Go.RowKit

theorem nodup_leS : ∀ {l u : List OSt}, l.Nodup → (∀ x ∈ l, x ∈ u) → l.length ≤ u.length
  | [], u, _, _ => by simp
  | a :: l, u, hn, hs => by
    have hn' := List.nodup_cons.1 hn
    obtain ⟨p, q, e⟩ := List.append_of_mem (hs a (List.mem_cons_self ..))
    have h1 := nodup_leS (l := l) (u := p ++ q) hn'.2 (fun x hx => by
      have h2 := hs x (List.mem_cons_of_mem _ hx)
      rw [e, List.mem_append, List.mem_cons] at h2
      rw [List.mem_append]
      rcases h2 with h | h | h
      · exact .inl h
      · subst h; exact absurd hx hn'.1
      · exact .inr h)
    rw [e]
    simp only [List.length_cons, List.length_append] at h1 ⊢
    omega
theorem srt_nodup {l : List OSt} (h : SrtS l) : l.Nodup := List.Pairwise.imp (fun {a b} hab e => by subst e; rw [ltS_irr] at hab; cases hab) h
end
section
open Go.RowKit
attribute [local go_sem] Oper.semAt_some

/-- A sorted set of states of a plant. -/
structure StI (p : Plt) (o : List OSt) : Prop where
  srt : SrtS o
  ok : ∀ j, j < o.length → StOk p (sg o j)
  len : o.length ≤ 402
theorem sg_memT {l : List OSt} {k : Nat} (h : k < l.length) : sg l k ∈ l := by
  unfold sg
  rw [List.getD_eq_getElem?_getD, List.getElem?_eq_getElem h]
  exact List.getElem_mem h
theorem aftR_ok {p : Plt} {r : Int × Int} {l : List OSt} {t : OSt} (h : t ∈ aftR p r l) : StOk p t := by
  obtain ⟨s, -, n, -, e⟩ := mem_aftR.1 h
  exact nxtA_ok e
theorem StI.aft1 {p : Plt} (hp : PltOk p) (r : Int × Int) (l : List OSt) : StI p (aftR p r l) := by
  refine ⟨srt_aftR, fun j hj => aftR_ok (sg_memT hj), ?_⟩
  have h1 := nodup_leS (srt_nodup (srt_aftR (p := p) (r := r) (l := l))) (fun x hx => mem_allS.2 (aftR_ok hx))
  rw [allS_len (by have := cap_pos hp; omega)] at h1
  have := cap_le hp
  omega
theorem StI.sgl {p : Plt} {s : OSt} (h : StOk p s) : StI p [s] := by
  refine ⟨List.pairwise_singleton _ _, fun j hj => ?_, by simp⟩
  obtain rfl : j = 0 := by simpa using hj
  exact h
theorem drop_fg {l : List (Int × Int)} {k : Nat} (h : k < l.length) : l.drop k = fg l k :: l.drop (k + 1) := by
  rw [List.drop_eq_getElem_cons h, fg_mem h]
theorem prm_step {p : Plt} {lim : Int} {c : List (Int × Int)} {k : Nat} {o : List OSt} (h : k < c.length) : prmR p lim o (c.drop k) = (!o.any (blwQ p lim) && (!EmpB p (fg c k) o && prmR p lim (aftR p (fg c k) o) (c.drop (k + 1)))) := by
  rw [drop_fg h]
  rfl
set_option maxHeartbeats 6400000 in
set_option maxRecDepth 100000 in
theorem rPermitted_any (p : Plt) (s : OSt) (c : List (Int × Int)) (lim : Int) (a ac : Option Addr) (cap cc : Nat) (w : World) (hp : PltOk p) (hs : StOk p s) (hlim : 0 ≤ lim ∧ lim ≤ 1000) (hlc : c.length ≤ 20) (hc : ∀ k, k < c.length → 0 ≤ (fg c k).1 ∧ (fg c k).2 ≤ 50) (hr : Reads w a (p.pts.length * 2) (fracs p.pts)) (hrc : Reads w ac (c.length * 2) (fracs c)) :
    Calls Tryz.prog 77 #[.agg (plC p a cap), .agg #[.int .i64 s.1, .bool s.2], .slice ac c.length cc, .int .i64 lim] w fun e w' => e = .returned (.bool (prmR p lim [s] c)) ∧ Below w.heap.size w w' := by
  have HAF := zH (fun W k (hk : k < c.length) (o : List OSt) (ho : StI p o) al cl (hb : Below w.heap.size w W) h => rAfter_any p (fg c k) o a al cap cl W hp ⟨(hc k hk).1, (hc k hk).2⟩ ho.ok (by have := ho.len; omega) (hr.to hb) h)
  have HST := zH (fun k (hk : k < c.length) (o : List OSt) => prm_step (p := p) (lim := lim) (o := o) hk)
  have HNX := zH (fun k (o : List OSt) => StI.aft1 hp (fg c k) o)
  have HS1 := zH (StI.sgl hs)
  have HEN : Hid (∀ o, prmR p lim o (c.drop c.length) = !o.any (blwQ p lim)) := zH (fun o => by rw [List.drop_length]; rfl)
  have HYES : Hid (∀ (o : List OSt) k j, j < o.length → blwQ p lim (sg o j) = true → prmR p lim o (c.drop k) = false) := zH (fun o k j hj hb => by
    have ha : o.any (blwQ p lim) = true := List.any_eq_true.2 ⟨_, sg_memT hj, hb⟩
    cases hd : c.drop k with
    | nil => unfold prmR; rw [ha]; rfl
    | cons r rs => unfold prmR; rw [ha]; rfl)
  have HNO : Hid (∀ (o : List OSt), (∀ j, j < o.length → blwQ p lim (sg o j) = false) → o.any (blwQ p lim) = false) := zH (fun o h => by
    rw [List.any_eq_false]
    intro x hx
    obtain ⟨j, hj, e⟩ := List.getElem_of_mem hx
    have := h j hj
    unfold sg at this
    rw [List.getD_eq_getElem?_getD, List.getElem?_eq_getElem hj] at this
    rw [← e, Bool.not_eq_true]
    exact this)
  have HBL := zH (fun W (t : OSt) (ht : StOk p t) (hb : Below w.heap.size w W) => (rBelow_any p t lim a cap W hp.pts ht (by omega) (hr.to hb) : Calls Tryz.prog 43 _ _ fun e w' => e = .returned (.bool (blwQ p lim t)) ∧ Below W.heap.size W w'))
  have HRC := zH hrc
  unfold AftPost at HAF
  obtain ⟨rr, hrr⟩ : ∃ o, prmR p lim [s] c = o := ⟨_, rfl⟩
  have HS2 : Hid (prmR p lim [s] (c.drop 0) = rr) := zH hrr
  rw [hrr]
  obtain ⟨n, hn⟩ : ∃ n, c.length = n := ⟨_, rfl⟩
  rw [hn] at HAF HST HRC HEN hlc ⊢
  unfold plC at HAF HBL ⊢
  clear hr hrc hc hrr hn hp hs hlim
  obtain ⟨s1, s2⟩ := s
  dsimp only
  go_enter Tryz.func77, Tryz.ntmps77
  go_wp2_with fail
  obtain ⟨W, hW⟩ : ∃ W, ((w.alloc (.cells #[.slice a p.pts.length cap, .int .i64 p.pump, .int .i64 p.on, .int .i64 p.off] 44)).alloc (.cells #[.int .i64 s1, .bool s2] 46)).alloc (.cells #[.int .i64 s1, .bool s2] 46) = W := ⟨_, rfl⟩
  rw [hW]
  have K3 : Hid (Blk W w.heap.size #[.slice a p.pts.length cap, .int .i64 p.pump, .int .i64 p.on, .int .i64 p.off]) := by subst hW; exact zH (((Blk.new _ _ _).alloc _).alloc _)
  have K5 : Hid (Reads W (some ⟨w.heap.size + 1 + 1, 0, none⟩) (1 * 2) (osts [(s1, s2)])) := by subst hW; exact zH (one_reads (s := (s1, s2)) (Blk.newAt _ _ _ (by simp)))
  have HB : Hid (Below w.heap.size w W) := by subst hW; exact zH (bAlloc (bAlloc (bAlloc (bSelf w) _) _) _)
  clear hW
  go_loopw [9, 10, 11, 12] (fun s9 _ s11 _ wr => ∃ (k : Nat) (va : Option Addr) (vc : Nat) (o : List OSt), s9 = .slice va o.length vc ∧ s11 = .int .i64 k ∧ k ≤ n ∧ o.length ≤ vc ∧ Hid (StI p o) ∧ Hid (prmR p lim o (c.drop k) = rr) ∧ Hid (Reads wr va (o.length * 2) (osts o)) ∧ Hid (Below W.heap.size W wr)) (fun _ _ s11 _ _ => n + 1 - (intOf s11).toNat)
  case atStart => exact ⟨0, some ⟨w.heap.size + 1 + 1, 0, none⟩, 1, [(s1, s2)], rfl, rfl, Nat.zero_le _, Nat.le_refl _, HS1, HS2, K5, zH (bSelf W)⟩
  case round =>
    obtain ⟨k, va, vc, o, rfl, rfl, hk, hvc, HI, HQ, HO, HR0⟩ := hrel
    obtain ⟨w2, hw2⟩ : ∃ wv, wv = wr := ⟨_, rfl⟩
    subst hw2
    have hol := HI.out.len
    have HYK := zH (fun j hj hb => HQ.out.symm.trans (HYES.out o k j hj hb))
    have HNK := zH (fun h => HNO.out o h)
    have HOK := zH (fun j hj => HI.out.ok j hj)
    have HAK := zH (fun W (hk : k < n) al cl hb h => HAF.out W k hk o HI.out al cl hb h)
    obtain ⟨no, hno⟩ : ∃ n, o.length = n := ⟨_, rfl⟩
    rw [hno] at HYK HNK HOK HAK HO hvc hol ⊢
    clear hno HYES HNO HAF HI
    go_wp2_with fail
    go_loopw [12] (fun s12 wr => ∃ j : Nat, s12 = .int .i64 j ∧ j ≤ no ∧ Hid (∀ i, i < j → blwQ p lim (sg o i) = false) ∧ Hid (Below w2.heap.size w2 wr)) (fun s12 _ => no - (intOf s12).toNat)
    case atStart => exact ⟨0, rfl, Nat.zero_le _, zH (by intro i h; omega), zH (bSelf w2)⟩
    case round =>
      obtain ⟨j, rfl, hj, hno2, HR1⟩ := hrel
      by_cases hlt : j < no
      · obtain ⟨b, off, rfl, hb, hcc⟩ := (HO.out.to HR1.out).at (k := j * 2) (by omega)
        obtain ⟨⟨t1, t2⟩, hz⟩ : ∃ q, sg o j = q := ⟨_, rfl⟩
        obtain ⟨wv, hwv⟩ : ∃ wv, wv = wr := ⟨_, rfl⟩
        subst hwv
        have C0 : Hid (wv.cell? ⟨b, off + j * 2, none⟩ = some (.int .i64 t1)) := zH (by rw [hcc _ (by omega), osts0, hz])
        have C1 : Hid (wv.cell? ⟨b, off + j * 2 + 1, none⟩ = some (.bool t2)) := zH (by rw [Nat.add_assoc, hcc _ (by omega), osts1, hz])
        have HOJ := HOK.out j hlt
        have HYJ := zH (fun hb => HYK.out j hlt hb)
        rw [hz] at HOJ HYJ
        have HBJ := zH (fun W hb => HBL.out W (t1, t2) HOJ hb)
        dsimp only at HBJ
        obtain ⟨bb, hbb⟩ : ∃ b, lessQ (prQ p.pts t1) (lim, 1) = b := ⟨_, rfl⟩
        have HBB : Hid (blwQ p lim (sg o j) = bb) := zH (by rw [hz]; exact hbb)
        rw [show blwQ p lim (t1, t2) = bb from hbb] at HYJ
        rw [hbb] at HBJ
        have K3v := zH ((K3.out.to HR0.out).to HR1.out)
        have HBv := zH (bThen (bThen HB.out HR0.out) HR1.out)
        clear hcc hz hbb HOJ HBL HYK HOK
        go_wp2_with fail
        refine wp_region_quiet_all (fun w' => Below (World.heap wv).size (wv) w') (by kernel_rfl) (by kernel_rfl) (Below.refl _ _).drew ?_
        refine WQ.out ?_
        repeat (first | (refine WQ_no (by rfl) ?_; (simp only [Act.put, zzT, zzO, zzS])) | (refine WQ_yes (by rfl) ?_; apply Exists.intro; refine ⟨fun w1 hb1 => ?_, ?_⟩; (focus (((have c0 := (hb1.cell (p := ⟨b, off + j * 2, none⟩) hb).trans C0.out; have c1 := (hb1.cell (p := ⟨b, off + j * 2 + 1, none⟩) hb).trans C1.out; obtain ⟨-, k3, -⟩ := K3v.out.to hb1); have hb1 := zH hb1; go_simp); (try (go_bits; try go_simp)); (try (rw [if_pos (by omega)]; try go_simp)); (first | done | ((go_at_call 43; refine (HBJ.out _ (bThen HBv.out hb1.out)).mono ?_; rintro e w' ⟨rfl, hb⟩; exact ⟨rfl, bThen hb1.out hb⟩)) | (with_reducible rfl) | exact rfl))); (simp only [Act.put, zzT, zzO, zzS])))
        refine WQ_nil ?_
        intro w1 hb1
        replace HR1 := zH (bThen HR1.out hb1)
        clear hb1 HBJ HBv K3v C0 C1
        cases bb
        · go_wp2_with fail
          go_roundw
          case rel =>
            refine ⟨j + 1, by go_num, by omega, zH (fun i hi => ?_), HR1⟩
            by_cases h : i = j
            · subst h; exact HBB.out
            · exact hno2.out i (by omega)
          case measure => simp [intOf]; omega
        · obtain rfl : rr = false := HYJ.out rfl
          go_wp2_with fail
          go_ret
          exact ⟨rfl, bThen (bThen HB.out HR0.out) HR1.out⟩
      · obtain rfl : j = no := by omega
        have HAN := zH (HNK.out hno2.out)
        clear HNK hno2 HYK HOK HBL
        replace HR0 := zH (bThen HR0.out HR1.out)
        replace HO := zH (HO.out.to HR1.out)
        clear HR1
        by_cases hkn : k < n
        · have hne : ¬ (k : Int) = (n : Int) := by omega
          obtain ⟨b, off, rfl, hb, hcc⟩ := (((HRC.out.to HB.out).to HR0.out)).at (k := k * 2) (by omega)
          obtain ⟨⟨lo, hi⟩, hz⟩ : ∃ q, fg c k = q := ⟨_, rfl⟩
          obtain ⟨wv, hwv⟩ : ∃ wv, wv = wr := ⟨_, rfl⟩
          subst hwv
          have C0 : Hid (wv.cell? ⟨b, off + k * 2, none⟩ = some (.int .i64 lo)) := zH (by rw [hcc _ (by omega), fracs0, hz])
          have C1 : Hid (wv.cell? ⟨b, off + k * 2 + 1, none⟩ = some (.int .i64 hi)) := zH (by rw [Nat.add_assoc, hcc _ (by omega), fracs1, hz])
          have HA1 := zH (fun W al cl hb h => HAK.out W hkn al cl hb h)
          have HT1 := zH (HST.out k hkn o)
          have HN1 := zH (HNX.out k o)
          rw [hz] at HA1 HT1 HN1
          dsimp only at HA1
          obtain ⟨eb, heb⟩ : ∃ b, EmpB p (lo, hi) o = b := ⟨_, rfl⟩
          obtain ⟨M, hM⟩ : ∃ M, aftR p (lo, hi) o = M := ⟨_, rfl⟩
          rw [heb, hM] at HA1 HT1
          rw [hM] at HN1
          rw [HQ.out, HAN.out] at HT1
          have K3v := zH (K3.out.to HR0.out)
          have HBv := zH (bThen HB.out HR0.out)
          have HOv := zH HO.out
          clear hcc hz HAK HST HNX heb hM HQ HO HAN
          go_wp2_with fail
          refine wp_region_tree (by kernel_rfl) (fun wd hwd => ?_)
          have T := zH hwd
          clear hwd
          refine WTq 0 ?_; apply Exists.intro; refine ⟨fun w1 hb1 => ?_, ?_⟩; (focus (((obtain ⟨-, k3, -⟩ := K3v.out.to (T.out.trans hb1)); have hb1 := zH hb1; go_simp); (try (go_bits; try go_simp)); (try (rw [if_pos (by omega)]; try go_simp)); (first | done | (with_reducible rfl) | exact rfl)))
          simp only [Act.put, zzT, zzO, zzS]
          refine WTq 1 ?_; apply Exists.intro; refine ⟨fun w1 hb1 => ?_, ?_⟩; (focus ((have hb1 := zH hb1; go_simp); (try (go_bits; try go_simp)); (try (rw [if_pos (by omega)]; try go_simp)); (first | done | (with_reducible rfl) | exact rfl)))
          simp only [Act.put, zzT, zzO, zzS]
          refine WTq 2 ?_; apply Exists.intro; refine ⟨fun w1 hb1 => ?_, ?_⟩; (focus ((have hb1 := zH hb1; go_simp); (try (go_bits; try go_simp)); (try (rw [if_pos (by omega)]; try go_simp)); (first | done | (with_reducible rfl) | exact rfl)))
          simp only [Act.put, zzT, zzO, zzS]
          refine WTq 3 ?_; apply Exists.intro; refine ⟨fun w1 hb1 => ?_, ?_⟩; (focus ((have hb1 := zH hb1; go_simp); (try (go_bits; try go_simp)); (try (rw [if_pos (by omega)]; try go_simp)); (first | done | (with_reducible rfl) | exact rfl)))
          simp only [Act.put, zzT, zzO, zzS]
          refine WTq 4 ?_; apply Exists.intro; refine ⟨fun w1 hb1 => ?_, ?_⟩; (focus (((have c0 := ((T.out.trans hb1).cell (p := ⟨b, off + k * 2, none⟩) hb).trans C0.out; have c1 := ((T.out.trans hb1).cell (p := ⟨b, off + k * 2 + 1, none⟩) hb).trans C1.out); have hb1 := zH hb1; go_simp); (try (go_bits; try go_simp)); (try (rw [if_pos (by omega)]; try go_simp)); (first | done | (with_reducible rfl) | exact rfl)))
          simp only [Act.put, zzT, zzO, zzS]
          refine WTq 5 ?_; apply Exists.intro; refine ⟨fun w1 hb1 => ?_, ?_⟩; (focus (((have c0 := ((T.out.trans hb1).cell (p := ⟨b, off + k * 2, none⟩) hb).trans C0.out; have c1 := ((T.out.trans hb1).cell (p := ⟨b, off + k * 2 + 1, none⟩) hb).trans C1.out); have hb1 := zH hb1; go_simp); (try (go_bits; try go_simp)); (try (rw [if_pos (by omega)]; try go_simp)); (first | done | (with_reducible rfl) | exact rfl)))
          simp only [Act.put, zzT, zzO, zzS]
          refine WT_one 6 rfl (by kernel_rfl) ?_
          unfold stepT
          go_wp2_with fail
          refine (HA1.out _ _ _ (bThen HBv.out T.out) (HOv.out.to T.out)).mono ?_
          rintro e u1 ⟨aM, cM, rfl, hcM, hrM, hb2⟩
          have HRM := zH hrM
          have hbd := zH (hb2.mono T.out.size)
          replace T := zH (bThen T.out hb2)
          clear hb2 hrM HA1 HOv K3v HBv
          go_wp2_with fail
          refine ⟨hbd.out, ?_⟩
          clear hbd
          refine WTq 7 ?_; apply Exists.intro; refine ⟨fun w1 hb1 => ?_, ?_⟩; (focus ((have hb1 := zH hb1; go_simp); (try (go_bits; try go_simp)); (try (rw [if_pos (by omega)]; try go_simp)); (first | done | (with_reducible rfl) | exact rfl)))
          simp only [Act.put, zzT, zzO, zzS]
          refine WTq 8 ?_; apply Exists.intro; refine ⟨fun w1 hb1 => ?_, ?_⟩; (focus ((have hb1 := zH hb1; go_simp); (try (go_bits; try go_simp)); (try (rw [if_pos (by omega)]; try go_simp)); (first | done | (with_reducible rfl) | exact rfl)))
          simp only [Act.put, zzT, zzO, zzS]
          refine WTq 9 ?_; apply Exists.intro; refine ⟨fun w1 hb1 => ?_, ?_⟩; (focus ((have hb1 := zH hb1; go_simp); (try (go_bits; try go_simp)); (try (rw [if_pos (by omega)]; try go_simp)); (first | done | (with_reducible rfl) | exact rfl)))
          simp only [Act.put, zzT, zzO, zzS]
          refine WTq 10 ?_; apply Exists.intro; refine ⟨fun w1 hb1 => ?_, ?_⟩; (focus ((have hb1 := zH hb1; go_simp); (try (go_bits; try go_simp)); (try (rw [if_pos (by omega)]; try go_simp)); (first | done | (with_reducible rfl) | exact rfl)))
          simp only [Act.put, zzT, zzO, zzS]
          refine WTq 11 ?_; apply Exists.intro; refine ⟨fun w1 hb1 => ?_, ?_⟩; (focus ((have hb1 := zH hb1; go_simp); (try (go_bits; try go_simp)); (try (rw [if_pos (by omega)]; try go_simp)); (first | done | (with_reducible rfl) | exact rfl)))
          simp only [Act.put, zzT, zzO, zzS]
          refine WT_done (by kernel_rfl) ?_
          replace HR0 := zH (bThen HR0.out T.out)
          clear T C0 C1
          cases eb
          · have HT2 := zH HT1.out.symm
            clear HT1
            go_wp2_with fail
            go_roundw
            case rel => exact ⟨k + 1, aM, cM, M, rfl, by go_num, by omega, hcM, HN1, HT2, HRM, HR0⟩
            case measure => simp [intOf]; omega
          · obtain rfl : rr = false := HT1.out
            go_wp2_with fail
            go_ret
            exact ⟨rfl, bThen HB.out HR0.out⟩
        · obtain rfl : k = n := by omega
          obtain rfl : rr = true := by rw [← HQ.out, HEN.out o, HAN.out]; rfl
          go_wp2_with fail
          go_ret
          exact ⟨rfl, bThen HB.out HR0.out⟩
end
section
set_option maxRecDepth 100000
set_option maxHeartbeats 6400000
open Go.RowKit
attribute [local go_sem] Oper.semAt_some

theorem fwG_off {p : Plt} {c : List (Int × Int)} {lim : Int} {k : Nat} (hb : bokB k p.pts = false) : fwG p c lim k = false := by unfold fwG; rw [hb]; rfl
theorem fwG_on {p : Plt} {c : List (Int × Int)} {lim : Int} {k : Nat} (hb : bokB k p.pts = true) : fwG p c lim k = prmR (btPl p k) lim [(capV (btlQ k p.pts), false)] c := by unfold fwG; rw [hb]; rfl

theorem rFewest_any (p : Plt) (c : List (Int × Int)) (lim : Int) (a ac : Option Addr) (cap cc : Nat) (w : World) (hp : PltOk p) (hlim : 0 ≤ lim ∧ lim ≤ 1000) (hlc : c.length ≤ 20) (hc : ∀ k, k < c.length → 0 ≤ (fg c k).1 ∧ (fg c k).2 ≤ 50) (hr : Reads w a (p.pts.length * 2) (fracs p.pts)) (hrc : Reads w ac (c.length * 2) (fracs c)) :
    Calls Tryz.prog 86 #[.agg (plC p a cap), .slice ac c.length cc, .int .i64 lim] w fun e w' => e = .returned (.tuple #[.int .i64 (((fwK p c lim).getD 0 : Nat) : Int), .bool (fwK p c lim).isSome]) ∧ Below w.heap.size w w' := by
  have HBT := zH (fun W (k : Nat) (hk : 1 ≤ k ∧ k ≤ 5) (hb : Below w.heap.size w W) => rBottles_any p (k : Int) a cap W hp.pts ⟨by omega, by omega⟩ (hr.to hb))
  have HCA := zH (fun W (k : Nat) (a1 : Option Addr) (c1 : Nat) (h1 : Reads W a1 (p.pts.length * 2) (fracs (btlQ k p.pts))) => by
    have h2 := rCapacity_any (btPl p k) a1 c1 W (by show 0 < (btlQ k p.pts).length; rw [btl_len]; have := hp.pts.two; omega) (by show (btlQ k p.pts).length ≤ 100000; rw [btl_len]; have := hp.pts.few; omega) (by show Reads W a1 ((btlQ k p.pts).length * 2) _; rw [btl_len]; exact h1)
    unfold plC btPl at h2
    dsimp only at h2
    rw [btl_len] at h2
    exact h2)
  have HPM := zH (fun W (k : Nat) (hk : 1 ≤ k ∧ k ≤ 5) (a1 : Option Addr) (c1 : Nat) (hbk : bokB k p.pts = true) (hb : Below w.heap.size w W) (h1 : Reads W a1 (p.pts.length * 2) (fracs (btlQ k p.pts))) => by
    have hpk := bt_pok hp (k := (k : Int)) (by omega) hbk
    have h2 := rPermitted_any (btPl p k) (capV (btlQ k p.pts), false) c lim a1 ac c1 cc W hpk ⟨by have := cap_pos hpk; show (0 : Int) ≤ capV (btPl p k).pts; omega, Int.le_refl _⟩ hlim hlc hc (by show Reads W a1 ((btlQ k p.pts).length * 2) _; rw [btl_len]; exact h1) (hrc.to hb)
    rw [← fwG_on hbk] at h2
    unfold plC at h2
    rw [show (btPl p k).pts.length = p.pts.length from btl_len] at h2
    exact h2)
  have HYE := zH (fun (k : Nat) (hk : k ≤ 5) (h : fwG p c lim k = true) => fwF_yes (g := fwG p c lim) hk h)
  have HNO := zH (fun (k : Nat) (hk : k ≤ 5) (h : fwG p c lim k = false) => fwF_no (g := fwG p c lim) hk h)
  have HOF := zH (fun (k : Nat) (h : bokB k p.pts = false) => fwG_off (c := c) (lim := lim) h)
  have HK0 : Hid (fwK p c lim = fwF (fwG p c lim) 1 (6 - 1)) := zH rfl
  have HKE : Hid (fwF (fwG p c lim) 6 (6 - 6) = none) := zH rfl
  obtain ⟨K, hK⟩ : ∃ x, fwK p c lim = x := ⟨_, rfl⟩
  obtain ⟨G, hG⟩ : ∃ x, fwG p c lim = x := ⟨_, rfl⟩
  rw [hK] at HK0 ⊢
  rw [hG] at HPM HYE HNO HOF HK0 HKE
  unfold BtPost at HBT
  obtain ⟨n, hn⟩ : ∃ n, c.length = n := ⟨_, rfl⟩
  obtain ⟨m, hm⟩ : ∃ n, p.pts.length = n := ⟨_, rfl⟩
  unfold plC at HBT ⊢
  rw [hn] at HPM ⊢
  rw [hm] at HBT HCA HPM ⊢
  clear hr hrc hlc hc hlim hp hK hG hn hm
  go_enter Tryz.func86, Tryz.ntmps86
  go_wp2_with fail
  obtain ⟨W, hW⟩ : ∃ W, w.alloc (.cells #[.slice a m cap, .int .i64 p.pump, .int .i64 p.on, .int .i64 p.off] 44) = W := ⟨_, rfl⟩
  rw [hW]
  have K3 : Hid (Blk W w.heap.size #[.slice a m cap, .int .i64 p.pump, .int .i64 p.on, .int .i64 p.off]) := by subst hW; exact zH (Blk.new _ _ _)
  have HB : Hid (Below w.heap.size w W) := by subst hW; exact zH (bAlloc (bSelf w) _)
  clear hW
  go_loopw [8, 9, 10] (fun s8 _ _ wr => ∃ k : Nat, s8 = .int .i64 k ∧ 1 ≤ k ∧ k ≤ 6 ∧ Hid (K = fwF G k (6 - k)) ∧ Hid (Below W.heap.size W wr)) (fun s8 _ _ _ => 6 - (intOf s8).toNat)
  case atStart => exact ⟨1, rfl, Nat.le_refl _, by omega, HK0, zH (bSelf W)⟩
  case round =>
    clear HK0
    obtain ⟨k, rfl, hk1, hk, HQ, HR0⟩ := hrel
    by_cases hlt : k ≤ 5
    · have hlt' : (k : Int) ≤ 5 := by omega
      have HB1 := zH (fun W hb => HBT.out W k ⟨hk1, hlt⟩ hb)
      have HC1 := zH (fun W a1 c1 h1 => HCA.out W k a1 c1 h1)
      have HP1 := zH (fun W a1 c1 hbk hb h1 => HPM.out W k ⟨hk1, hlt⟩ a1 c1 hbk hb h1)
      have HY1 := zH (fun h => HQ.out.trans (HYE.out k hlt h))
      have HN1 := zH (fun h => HQ.out.trans (HNO.out k hlt h))
      have HO1 := zH (fun h => HOF.out k h)
      obtain ⟨bo, hbo⟩ : ∃ b, bokB k p.pts = b := ⟨_, rfl⟩
      rw [hbo] at HB1 HP1 HO1
      obtain ⟨C, hC⟩ : ∃ b, capV (btlQ k p.pts) = b := ⟨_, rfl⟩
      rw [hC] at HC1 HP1
      obtain ⟨gb, hgb⟩ : ∃ b, G k = b := ⟨_, rfl⟩
      rw [hgb] at HP1 HY1 HN1 HO1
      dsimp only [btPl] at HP1
      have K3a := zH (K3.out.to HR0.out)
      clear hbo hC hgb HBT HCA HPM HYE HNO HOF HQ
      obtain ⟨-, k3, -⟩ := K3a.out
      go_wp2_with fail
      clear k3
      refine (HB1.out _ (bThen HB.out HR0.out)).mono ?_
      rintro e w4 ⟨a1, d1, rfl, hd1, hrd, hb, -⟩
      replace HR0 := zH (bThen HR0.out hb)
      have HRD := zH hrd
      clear hb hrd HB1 K3a
      go_wp2_with fail
      obtain ⟨w5, hw5⟩ : ∃ u, w4.alloc (.cells #[.slice a1 m d1, .int .i64 p.pump, .int .i64 p.on, .int .i64 p.off] 44) = u := ⟨_, rfl⟩
      rw [hw5]
      have hb : Below w4.heap.size w4 w5 := by subst hw5; exact bAlloc (bSelf _) _
      have K9 : Hid (Blk w5 w4.heap.size #[.slice a1 m d1, .int .i64 p.pump, .int .i64 p.on, .int .i64 p.off]) := by subst hw5; exact zH (Blk.new _ _ _)
      replace HR0 := zH (bThen HR0.out hb)
      replace HRD := zH (HRD.out.to hb)
      clear hb hw5
      cases bo with
      | false =>
        obtain rfl : gb = false := HO1.out rfl
        have HQ2 := zH (HN1.out rfl)
        clear HY1 HN1 HP1 HC1
        refine wp_region_quiet_all (fun w' => Below (World.heap w5).size (w5) w') (by kernel_rfl) (by kernel_rfl) (Below.refl _ _).drew ?_
        refine WQ.out ?_
        repeat (first | (refine WQ_no (by rfl) ?_; (simp only [Act.put, zzT, zzO, zzS])) | (refine WQ_yes (by rfl) ?_; apply Exists.intro; refine ⟨fun w1 hb1 => ?_, ?_⟩; (focus ((have hb1 := zH hb1; go_simp); (try (go_bits; try go_simp)); (try (rw [if_pos (by omega)]; try go_simp)); (first | done | (with_reducible rfl) | exact rfl))); (simp only [Act.put, zzT, zzO, zzS])))
        refine WQ_nil ?_
        intro w1 hb1
        replace HR0 := zH (bThen HR0.out hb1)
        clear hb1
        go_wp2_with fail
        go_roundw
        case rel => exact ⟨k + 1, by go_num, by omega, by omega, HQ2, HR0⟩
        case measure => simp [intOf]; omega
      | true =>
        replace HP1 := zH (fun W a1 c1 hb h1 => HP1.out W a1 c1 rfl hb h1)
        clear HO1
        refine wp_region_tree (by kernel_rfl) (fun wd hwd => ?_)
        have T := zH hwd
        clear hwd
        refine WTq 0 ?_; apply Exists.intro; refine ⟨fun w1 hb1 => ?_, ?_⟩; (focus ((have hb1 := zH hb1; go_simp); (try (go_bits; try go_simp)); (try (rw [if_pos (by omega)]; try go_simp)); (first | done | (with_reducible rfl) | exact rfl)))
        simp only [Act.put, zzT, zzO, zzS]
        refine WTq 1 ?_; apply Exists.intro; refine ⟨fun w1 hb1 => ?_, ?_⟩; (focus ((have hb1 := zH hb1; go_simp); (try (go_bits; try go_simp)); (try (rw [if_pos (by omega)]; try go_simp)); (first | done | (with_reducible rfl) | exact rfl)))
        simp only [Act.put, zzT, zzO, zzS]
        refine WTq 2 ?_; apply Exists.intro; refine ⟨fun w1 hb1 => ?_, ?_⟩; (focus (((obtain ⟨-, k9, -⟩ := K9.out.to (T.out.trans hb1)); have hb1 := zH hb1; go_simp); (try (go_bits; try go_simp)); (try (rw [if_pos (by omega)]; try go_simp)); (first | done | (with_reducible rfl) | exact rfl)))
        simp only [Act.put, zzT, zzO, zzS]
        refine WTq 3 ?_; apply Exists.intro; refine ⟨fun w1 hb1 => ?_, ?_⟩; (focus (((obtain ⟨-, k9, -⟩ := K9.out.to (T.out.trans hb1)); have hb1 := zH hb1; go_simp); (try (go_bits; try go_simp)); (try (rw [if_pos (by omega)]; try go_simp)); (first | done | (with_reducible rfl) | exact rfl)))
        simp only [Act.put, zzT, zzO, zzS]
        refine WTq 6 ?_; apply Exists.intro; refine ⟨fun w1 hb1 => ?_, ?_⟩; (focus ((have hb1 := zH hb1; go_simp); (try (go_bits; try go_simp)); (try (rw [if_pos (by omega)]; try go_simp)); (first | done | (with_reducible rfl) | exact rfl)))
        simp only [Act.put, zzT, zzO, zzS]
        refine WTq 7 ?_; apply Exists.intro; refine ⟨fun w1 hb1 => ?_, ?_⟩; (focus ((have hb1 := zH hb1; go_simp); (try (go_bits; try go_simp)); (try (rw [if_pos (by omega)]; try go_simp)); (first | done | (with_reducible rfl) | exact rfl)))
        simp only [Act.put, zzT, zzO, zzS]
        refine WT_one 4 rfl (by kernel_rfl) ?_
        unfold stepT
        go_wp2_with fail
        refine (HC1.out _ _ _ (HRD.out.to T.out)).mono ?_
        rintro e u1 ⟨rfl, hb⟩
        have hbd := zH (hb.mono T.out.size)
        replace T := zH (bThen T.out hb)
        clear hb
        go_wp2_with fail
        refine ⟨hbd.out, ?_⟩
        clear hbd
        refine WT_yes 5 rfl (by kernel_rfl) (fun _ _ _ _ _ h => h) (by rfl) ⟨.agg #[.int .i64 C, .bool false], fun w1 hb1 => (by go_simp), ?_⟩
        simp only [Act.put, zzT, zzO, zzS]
        refine WT_one 8 rfl (by kernel_rfl) ?_
        unfold stepT
        go_wp2_with fail
        refine (HP1.out _ _ _ (bThen (bThen HB.out HR0.out) T.out) (HRD.out.to T.out)).mono ?_
        rintro e u2 ⟨rfl, hb⟩
        have hbd := zH (hb.mono T.out.size)
        replace T := zH (bThen T.out hb)
        clear hb
        go_wp2_with fail
        refine ⟨hbd.out, ?_⟩
        clear hbd
        refine WTq 9 ?_; apply Exists.intro; refine ⟨fun w1 hb1 => ?_, ?_⟩; (focus ((have hb1 := zH hb1; go_simp); (try (go_bits; try go_simp)); (try (rw [if_pos (by omega)]; try go_simp)); (first | done | (with_reducible rfl) | exact rfl)))
        simp only [Act.put, zzT, zzO, zzS]
        refine WT_done (by kernel_rfl) ?_
        replace HR0 := zH (bThen HR0.out T.out)
        clear T
        cases gb with
        | true =>
          obtain rfl : K = some k := HY1.out rfl
          go_wp2_with fail
          refine bodyPost_ret (results_tmp2 rfl _ _ _) rfl ?_
          exact ⟨rfl, bThen HB.out HR0.out⟩
        | false =>
          have HQ2 := zH (HN1.out rfl)
          clear HY1 HN1
          go_wp2_with fail
          go_roundw
          case rel => exact ⟨k + 1, by go_num, by omega, by omega, HQ2, HR0⟩
          case measure => simp [intOf]; omega
    · obtain rfl : k = 6 := by omega
      obtain rfl : K = none := HQ.out.trans HKE.out
      go_wp2_with fail
      refine bodyPost_ret (results_tmp2 rfl _ _ _) rfl ?_
      exact ⟨rfl, bThen HB.out HR0.out⟩

theorem SamePlant_same (p : Plt) (a b : Option Addr) (ca cb : Nat) (w : World) (hlen : p.pts.length ≤ 100000) (hra : Reads w a (p.pts.length * 2) (fracs p.pts)) (hrb : Reads w b (p.pts.length * 2) (fracs p.pts)) :
    Calls Tryz.prog 84 #[.agg (plC p a ca), .agg (plC p b cb)] w fun e w' => e = .returned (.bool true) ∧ Below w.heap.size w w' := by
  obtain ⟨l, pump, on, off⟩ := p
  unfold plC
  dsimp only at hlen hra hrb ⊢
  have HA := zH hra
  have HB := zH hrb
  obtain ⟨n, hn⟩ : ∃ n, l.length = n := ⟨_, rfl⟩
  rw [hn] at HA HB hlen ⊢
  clear hra hrb hn
  go_enter Tryz.func84, Tryz.ntmps84
  go_wp2_with fail
  obtain ⟨W, hW⟩ : ∃ W, (w.alloc (.cells #[.slice a n ca, .int .i64 pump, .int .i64 on, .int .i64 off] 44)).alloc (.cells #[.slice b n cb, .int .i64 pump, .int .i64 on, .int .i64 off] 44) = W := ⟨_, rfl⟩
  rw [hW]
  have K2 : Hid (Blk W w.heap.size #[.slice a n ca, .int .i64 pump, .int .i64 on, .int .i64 off]) := by subst hW; exact zH ((Blk.new _ _ _).alloc _)
  have K3 : Hid (Blk W (w.heap.size + 1) #[.slice b n cb, .int .i64 pump, .int .i64 on, .int .i64 off]) := by subst hW; exact zH (Blk.newAt _ _ _ (by simp))
  have HBW : Hid (Below w.heap.size w W) := by subst hW; exact zH (bAlloc (bAlloc (bSelf w) _) _)
  replace HA := zH (HA.out.to HBW.out)
  replace HB := zH (HB.out.to HBW.out)
  clear hW
  go_loopw [5] (fun i wr => ∃ k : Nat, k ≤ n ∧ i = .int .i64 k ∧ Hid (Below W.heap.size W wr)) (fun i _ => n - (intOf i).toNat)
  case atStart => exact ⟨0, Nat.zero_le _, rfl, zH (bSelf W)⟩
  case round =>
    obtain ⟨k, hk, rfl, hB⟩ := hrel
    obtain ⟨wv, hwv⟩ : ∃ wv, wv = wr := ⟨_, rfl⟩
    subst hwv
    have K2v := zH (K2.out.to hB.out)
    have K3v := zH (K3.out.to hB.out)
    by_cases hlt : k < n
    · obtain ⟨ba, oa, rfl, hba, hca⟩ := (HA.out.to hB.out).at (k := k * 2) (by omega)
      obtain ⟨bb, ob, rfl, hbb, hcb⟩ := (HB.out.to hB.out).at (k := k * 2) (by omega)
      obtain ⟨n1, d1, hz⟩ : ∃ n1 d1, fg l k = (n1, d1) := ⟨_, _, rfl⟩
      have h1 : Hid (wv.cell? ⟨ba, oa + k * 2, none⟩ = some (.int .i64 n1)) := zH (by rw [hca _ (by omega), fracs0, hz])
      have h2 : Hid (wv.cell? ⟨ba, oa + k * 2 + 1, none⟩ = some (.int .i64 d1)) := zH (by rw [Nat.add_assoc, hca _ (by omega), fracs1, hz])
      have h3 : Hid (wv.cell? ⟨bb, ob + k * 2, none⟩ = some (.int .i64 n1)) := zH (by rw [hcb _ (by omega), fracs0, hz])
      have h4 : Hid (wv.cell? ⟨bb, ob + k * 2 + 1, none⟩ = some (.int .i64 d1)) := zH (by rw [Nat.add_assoc, hcb _ (by omega), fracs1, hz])
      clear hca hcb hz
      obtain ⟨-, k2, -⟩ := K2v.out
      go_wp2_with fail
      clear k2
      refine wp_region_quiet_all (fun w' => Below (World.heap wv).size (wv) w') (by kernel_rfl) (by kernel_rfl) (Below.refl _ _).drew ?_
      refine WQ.out ?_
      repeat (first | (refine WQ_no (by rfl) ?_; (simp only [Act.put, zzT, zzO, zzS])) | (refine WQ_yes (by rfl) ?_; apply Exists.intro; refine ⟨fun w1 hb1 => ?_, ?_⟩; (focus (((obtain ⟨-, k2, -⟩ := K2v.out.to hb1; obtain ⟨-, k3, -⟩ := K3v.out.to hb1; have e1 := (hb1.cell (p := ⟨ba, oa + k * 2, none⟩) hba).trans h1.out; have e2 := (hb1.cell (p := ⟨ba, oa + k * 2 + 1, none⟩) hba).trans h2.out; have e3 := (hb1.cell (p := ⟨bb, ob + k * 2, none⟩) hbb).trans h3.out; have e4 := (hb1.cell (p := ⟨bb, ob + k * 2 + 1, none⟩) hbb).trans h4.out); have hb1 := zH hb1; go_simp); (try (go_bits; try go_simp)); (try (rw [if_pos (by omega)]; try go_simp)); (first | done | (with_reducible rfl) | exact rfl))); (simp only [Act.put, zzT, zzO, zzS])))
      refine WQ_nil ?_
      intro w1 hb1
      go_wp2_with fail
      go_roundw
      case rel => exact ⟨k + 1, by omega, by go_num, zH (bThen hB.out hb1)⟩
      case measure => simp [intOf]; omega
    · obtain rfl : k = n := by omega
      obtain ⟨-, k2, -⟩ := K2v.out
      go_wp2_with fail
      go_ret
      exact ⟨rfl, bThen HBW.out hB.out⟩
end
section
open Go.RowKit

theorem chP_of {p : Plt} (h : PltOk p) : (chP p).2 = 0 := by
  have h1 : fewE p.pts.length = 0 := by
    have a := h.pts.two
    have b := h.pts.few
    refine firstE2.2 ⟨?_, ?_⟩
    · rw [unlZ (by decide), decide_eq_true_eq]; omega
    · rw [unlZ (by decide), decide_eq_true_eq]; omega
  have h2 : (eachR (ptE p.pts) 0 p.pts.length).2 = 0 := eachR_nil _ _ (fun j _ hj => by
    refine firstE2.2 ⟨?_, ?_⟩
    · rw [unlZ (by decide)]
      simp only [Bool.and_eq_true, wthn_iff]
      exact ⟨h.pts.vol j (by omega), h.pts.prs j (by omega)⟩
    · rw [unlZ (by decide)]
      unfold ordB
      by_cases hj0 : j = 0
      · rw [if_pos hj0, h.pts.v0]; rfl
      · rw [if_neg hj0]
        have := h.pts.up (j - 1) (by omega)
        rw [show j - 1 + 1 = j by omega] at this
        simp [this.1, this.2])
  have h3 : pltE p = 0 := by
    refine firstE2.2 ⟨?_, ?_⟩
    · rw [unlZ (by decide)]
      simp only [Bool.and_eq_true, wthn_iff]
      exact ⟨⟨h.pump, h.on⟩, h.off⟩
    · rw [unlZ (by decide), decide_eq_true_eq]; exact h.ord
  unfold chP
  rw [if_neg (by simpa using h1), if_neg (by simpa using h2)]
  exact h3
theorem chCl_ofB {c : List (Int × Int)} (h1 : c.length ≤ 20) (h2 : ∀ k, k < c.length → 0 ≤ (fg c k).1 ∧ (fg c k).2 ≤ 50 ∧ (fg c k).1 ≤ (fg c k).2) : (chCl c).2 = 0 := by
  unfold chCl
  rw [if_neg (by omega)]
  exact eachR_nil _ _ (fun j _ hj => rgE_of (h2 j (by omega)).1 (h2 j (by omega)).2.1 (h2 j (by omega)).2.2)
theorem opLE_of {p : Plt} {s : OSt} {c : List (Int × Int)} {lim : Int} (h1 : (chP p).2 = 0) (h2 : StOk p s) (h3 : (chCl c).2 = 0) (h4 : unl (wthn lim 0 1000) 2 = 0) : opLE p s.1 c lim = 0 := by
  refine firstE2.2 ⟨firstE2.2 ⟨?_, h3⟩, h4⟩
  unfold opSE
  rw [if_pos h1, unlZ (by decide)]
  simp [h2.1, h2.2]
theorem bp_bad {p : Plt} {k : Int} (h : (chP p).2 ≠ 0) : bpE p k = (chP p).2 ∧ bpO p k = ⟨[], 0, 0, 0⟩ := by
  have h1 : firstE [(chP p).2, unl (wthn k 1 5) 2] = (chP p).2 := by unfold firstE; rw [if_neg h]
  have h2 : bpE p k = (chP p).2 := by unfold bpE; rw [h1, if_neg h]
  exact ⟨h2, by unfold bpO; rw [h2, if_neg h]⟩
theorem bp_out {p : Plt} {k : Int} (h : (chP p).2 = 0) (hk : wthn k 1 5 = false) : bpE p k = 2 ∧ bpO p k = ⟨[], 0, 0, 0⟩ := by
  have h1 : firstE [(chP p).2, unl (wthn k 1 5) 2] = 2 := by rw [h, hk]; rfl
  have h2 : bpE p k = 2 := by unfold bpE; rw [h1]; rfl
  exact ⟨h2, by unfold bpO; rw [h2]; rfl⟩
theorem bp_large {p : Plt} {k : Int} (h : (chP p).2 = 0) (hk : wthn k 1 5 = true) (hb : bokB k p.pts = false) : bpE p k = 8 ∧ bpO p k = ⟨[], 0, 0, 0⟩ := by
  have h1 : firstE [(chP p).2, unl (wthn k 1 5) 2] = 0 := by rw [h, hk]; rfl
  have h2 : bpE p k = 8 := by unfold bpE; rw [h1, hb]; rfl
  exact ⟨h2, by unfold bpO; rw [h2]; rfl⟩
theorem bp_in {p : Plt} {k : Int} (h : (chP p).2 = 0) (hk : wthn k 1 5 = true) (hb : bokB k p.pts = true) : bpE p k = 0 ∧ bpO p k = btPl p k := by
  have h1 : firstE [(chP p).2, unl (wthn k 1 5) 2] = 0 := by rw [h, hk]; rfl
  have h2 : bpE p k = 0 := by unfold bpE; rw [h1, hb]; rfl
  exact ⟨h2, by unfold bpO; rw [h2]; rfl⟩
theorem fwE1_val {p : Plt} {c : List (Int × Int)} {lim : Int} : fwE1 p c lim = if (chP p).2 = 0 then (if (chCl c).2 = 0 then unl (wthn lim 0 1000) 2 else (chCl c).2) else (chP p).2 := by
  unfold fwE1 firstE
  split
  · unfold firstE
    split
    · unfold firstE
      split
      · rename_i h; rw [h]; rfl
      · rfl
    · rfl
  · rfl
theorem fw_bad {p : Plt} {c : List (Int × Int)} {lim : Int} (h : fwE1 p c lim ≠ 0) : fwE p c lim = fwE1 p c lim ∧ fwO p c lim = 0 := by
  unfold fwE fwO
  rw [if_neg h, if_neg h]
  exact ⟨rfl, rfl⟩
theorem fw_good {p : Plt} {c : List (Int × Int)} {lim : Int} (h : fwE1 p c lim = 0) : fwE p c lim = unl (fwK p c lim).isSome 12 ∧ fwO p c lim = (((fwK p c lim).getD 0 : Nat) : Int) := by
  unfold fwE fwO
  rw [if_pos h, if_pos h]
  exact ⟨rfl, rfl⟩
theorem fwF_some {g : Nat → Bool} : ∀ {m k j : Nat}, fwF g k m = some j → k ≤ j ∧ j < k + m ∧ g j = true ∧ ∀ i, k ≤ i → i < j → g i = false
  | 0, k, j, h => by cases h
  | m + 1, k, j, h => by
    have e : fwF g k (m + 1) = if g k then some k else fwF g (k + 1) m := rfl
    rw [e] at h
    by_cases hk : g k = true
    · rw [if_pos hk] at h
      cases h
      exact ⟨Nat.le_refl _, by omega, hk, fun i h1 h2 => by omega⟩
    · rw [if_neg hk] at h
      obtain ⟨h1, h2, h3, h4⟩ := fwF_some h
      refine ⟨by omega, by omega, h3, fun i i1 i2 => ?_⟩
      by_cases hi : i = k
      · subst hi; simpa using hk
      · exact h4 i (by omega) i2
theorem fwK_le {p : Plt} {c : List (Int × Int)} {lim : Int} {j : Nat} (h : fwK p c lim = some j) : 1 ≤ j ∧ j ≤ 5 := by
  obtain ⟨h1, h2, -⟩ := fwF_some h
  omega
theorem bt_loop {p : Plt} {c : List (Int × Int)} {lim : Int} {j k : Nat} (h1 : (chP p).2 = 0) (h2 : (chCl c).2 = 0) (h3 : unl (wthn lim 0 1000) 2 = 0) (hK : fwK p c lim = some j) (hk1 : 1 ≤ k) (hkj : k ≤ j) :
    bpE p k = 0 ∧ bpO p k = btPl p k ∧ (chP (btPl p k)).2 = 0 ∧ opLE (btPl p k) (capV (btlQ k p.pts)) c lim = 0 ∧ prmB (btPl p k) (capV (btlQ k p.pts), false) c lim = decide (k = j) := by
  obtain ⟨a1, a2, a3, a4⟩ := fwF_some hK
  have hp := chP_ok h1
  have hbj : bokB (j : Int) p.pts = true := by
    unfold fwG at a3
    rw [Bool.and_eq_true] at a3
    exact a3.1
  have hbk : bokB (k : Int) p.pts = true := by
    cases hb : bokB (k : Int) p.pts with
    | true => rfl
    | false => rw [bok_up hp.pts hkj hb] at hbj; cases hbj
  have hpk := bt_pok hp (k := (k : Int)) (by omega) hbk
  obtain ⟨b1, b2⟩ := bp_in h1 (k := (k : Int)) (wthn_iff.2 (by omega)) hbk
  have hch := chP_of hpk
  have hst : StOk (btPl p k) (capV (btlQ k p.pts), false) := ⟨by have := cap_pos hpk; show (0 : Int) ≤ capV (btPl p k).pts; omega, Int.le_refl _⟩
  have hop := opLE_of (s := (capV (btlQ k p.pts), false)) hch hst h2 h3
  refine ⟨b1, b2, hch, hop, ?_⟩
  unfold prmB
  rw [if_pos hop, ← prm_wit, ← fwG_on hbk]
  by_cases e : k = j
  · subst e; rw [a3]; simp
  · rw [a4 k hk1 (by omega)]; simp [e]
theorem sc_100 {c : List (Int × Int)} (h : (chCl c).2 = 0) : sclE c 100 = 0 ∧ sclO c 100 = c := by
  have hs : sclQ 100 c = some c := sclQ_same (fun r hr => by
    obtain ⟨k, hk, e⟩ := List.getElem_of_mem hr
    have := ((chCl_ok h).2 k hk).2.1
    rw [fg_mem hk, e] at this
    exact this)
  unfold sclE sclO
  rw [if_pos h, if_pos h, hs]
  exact ⟨rfl, rfl⟩
theorem sc_own {p : Plt} {c : List (Int × Int)} {lim : Int} (h1 : (chP p).2 = 0) (h2 : (chCl c).2 = 0) (h3 : unl (wthn lim 0 1000) 2 = 0) (h : scfE p (capV p.pts, false) c lim = 0) :
    sclE c (scfO p (capV p.pts, false) c lim) = 0 ∧ (sclO c (scfO p (capV p.pts, false) c lim)).length = c.length ∧ opLE p (capV p.pts) (sclO c (scfO p (capV p.pts, false) c lim)) lim = 0 ∧ prmB p (capV p.pts, false) (sclO c (scfO p (capV p.pts, false) c lim)) lim = true := by
  have hp := chP_ok h1
  have hst : StOk p (capV p.pts, false) := ⟨by have := cap_pos hp; show (0 : Int) ≤ capV p.pts; omega, Int.le_refl _⟩
  have hop := opLE_of (s := (capV p.pts, false)) h1 hst h2 h3
  have hK : 0 < scK p (capV p.pts, false) c lim := by
    unfold scfE at h
    rw [if_pos hop, unlZ (by decide), decide_eq_true_eq] at h
    omega
  obtain ⟨q, hq⟩ : ∃ q, scK p (capV p.pts, false) c lim = q + 1 := ⟨_, (Nat.sub_add_cancel hK).symm⟩
  have hO : scfO p (capV p.pts, false) c lim = (q : Int) := by
    unfold scfO
    rw [if_pos hop, hq]
    omega
  obtain ⟨mm, hm, hpm⟩ := scale_law (show scF (scG p (capV p.pts, false) lim c) 0 201 = q + 1 from hq)
  obtain ⟨-, hle, -⟩ := scF_spec (scG p (capV p.pts, false) lim c) 201 0
  rw [show scF (scG p (capV p.pts, false) lim c) 0 201 = q + 1 from hq] at hle
  have hw : wthn (q : Int) 0 200 = true := wthn_iff.2 (by omega)
  rw [hO]
  have hE : sclE c (q : Int) = 0 ∧ sclO c (q : Int) = mm := by
    unfold sclE sclO
    rw [if_pos h2, if_pos h2, hw, hm]
    exact ⟨rfl, rfl⟩
  rw [hE.1, hE.2]
  have hl := (sclQ_len hm).1
  have hop2 := opLE_of (s := (capV p.pts, false)) (c := mm) h1 hst (chCl_ofB (by rw [hl]; exact (chCl_ok h2).1) (scl_ok ⟨by omega, by omega⟩ hm (chCl_ok h2).2)) h3
  refine ⟨rfl, hl, hop2, ?_⟩
  unfold prmB
  rw [if_pos hop2, ← prm_wit]
  exact hpm
end
section
open Go.RowKit
attribute [local go_sem] Oper.semAt_some

theorem clsB_22 {c : List (Int × Int)} (h : clssB c = true) : c.length ≤ 22 := by
  unfold clssB at h
  by_cases h1 : 22 < c.length
  · rw [if_pos h1] at h; cases h
  · omega

set_option maxHeartbeats 12800000 in
set_option maxRecDepth 100000 in
theorem OilBottles_any (p : Plt) (c : List (Int × Int)) (lim count : Int) (a ac : Option Addr) (cap cc : Nat) (w : World) (hlc : c.length ≤ maxLen) (hr : Reads w a (p.pts.length * 2) (fracs p.pts)) (hrc : Reads w ac (c.length * 2) (fracs c)) :
    Calls Tryz.prog 13 #[.agg (plC p a cap), .agg #[.slice ac c.length cc, .int .i64 lim], .int .i64 count] w fun e w' => e = .returned (.bool true) ∧ Below w.heap.size w w' := by
  have HAW := zH (fun W => oAwake_any W)
  have HFW := zH (fun W => lFew_any p a cap W)
  have HCL := zH (fun W (hb : Below w.heap.size w W) => lClasses_any c ac cc W (hrc.to hb))
  have HC22 : Hid (clssB c = true → c.length ≤ 22) := zH (fun h => clsB_22 h)
  have HPE := zH (fun W (h10 : p.pts.length ≤ 10) (hb : Below w.heap.size w W) => rPlantErr_any p a cap W (by omega) (hr.to hb))
  have HCE := zH (fun W (hb : Below w.heap.size w W) => rClassErr_any c ac cc W (hrc.to hb))
  have HSH := zH (fun W (h0 : (chCl c).2 = 0) (hb : Below w.heap.size w W) => lShort_any c ac cc W h0 (hrc.to hb))
  have HLM := zH (fun W => rLimitErr_any lim W)
  have HCPY := zH (fun W (h10 : p.pts.length ≤ 10) (hb : Below w.heap.size w W) => rCopyPlant_any p a cap W (by omega) (hr.to hb))
  have HCR := zH (fun W (h3 : c.length ≤ 22) (hb : Below w.heap.size w W) => CopyRanges_any c ac cc W (by omega) (hrc.to hb))
  have HBO := zH (fun W (a1 : Option Addr) (c1 : Nat) (h10 : p.pts.length ≤ 10) h1 => Bottles_any p count a1 c1 W (by omega) h1)
  have HBK := zH (fun W (k : Nat) (a1 : Option Addr) (c1 : Nat) (h10 : p.pts.length ≤ 10) (e1 : bpE p k = 0) (e2 : bpO p k = btPl p k) h1 => (show Calls Tryz.prog 82 #[.agg (plC p a1 c1), .int .i64 k] W (fun e w' => ∃ a' c', e = .returned (.tuple #[.agg #[.slice a' p.pts.length c', .int .i64 p.pump, .int .i64 p.on, .int .i64 p.off], .int .i64 0]) ∧ Reads w' a' (p.pts.length * 2) (fracs (btlQ k p.pts)) ∧ Below W.heap.size W w') from by
    have h2 := Bottles_any p k a1 c1 W (by omega) h1
    rw [e1, e2] at h2
    refine h2.mono ?_
    rintro e w' ⟨a', c', rfl, -, h4, h5⟩
    unfold plC btPl at *
    dsimp only at h4 ⊢
    rw [btl_len] at h4 ⊢
    exact ⟨a', c', rfl, h4, h5⟩))
  have HFF := zH (fun W (a1 : Option Addr) (c1 : Nat) (a2 : Option Addr) (c2 : Nat) (h10 : p.pts.length ≤ 10) h1 h2 => FewestFor_any p c lim a1 a2 c1 c2 W (by omega) hlc h2 h1)
  have HSZ := zH (fun W (a1 : Option Addr) (c1 : Nat) => SamePlant_same ⟨[], 0, 0, 0⟩ a1 none c1 0 W (Nat.zero_le _) (.inl rfl) (.inl rfl))
  have HSB := zH (fun W (k : Int) (a1 a2 : Option Addr) (c1 c2 : Nat) (h10 : p.pts.length ≤ 10) (h1 : Reads W a1 (p.pts.length * 2) (fracs (btlQ k p.pts))) (h2 : Reads W a2 (p.pts.length * 2) (fracs (btlQ k p.pts))) => by
    have h3 := SamePlant_same (btPl p k) a1 a2 c1 c2 W (by show (btlQ k p.pts).length ≤ 100000; rw [btl_len]; omega) (by show Reads W a1 ((btlQ k p.pts).length * 2) _; rw [btl_len]; exact h1) (by show Reads W a2 ((btlQ k p.pts).length * 2) _; rw [btl_len]; exact h2)
    unfold plC btPl at h3
    dsimp only at h3
    rw [btl_len] at h3
    exact h3)
  have HRB := zH (fun W (k : Int) (h0 : (chP p).2 = 0) (hk : 1 ≤ k ∧ k ≤ 5) (hb : Below w.heap.size w W) => rBottles_any p k a cap W (chP_ok h0).pts hk (hr.to hb))
  have HWI := zH (fun W => bWithin_any count 1 5 W)
  have HRF := zH (fun W (h0 : (chP p).2 = 0) (h1 : (chCl c).2 = 0) (h2 : unl (wthn lim 0 1000) 2 = 0) (hb : Below w.heap.size w W) => rFewest_any p c lim a ac cap cc W (chP_ok h0) (wthn_iff.1 ((unlZ (by decide)).1 h2)) (chCl_ok h1).1 (fun k hk => ⟨((chCl_ok h1).2 k hk).1, ((chCl_ok h1).2 k hk).2.1⟩) (hr.to hb) (hrc.to hb))
  have HS1 := zH (fun W (a2 : Option Addr) (c2 : Nat) (h1 : (chCl c).2 = 0) h => by
    have h2 := Scaled_any c 100 a2 c2 W hlc h
    rw [(sc_100 h1).1, (sc_100 h1).2] at h2
    exact h2)
  have HSQ := zH (fun W (a2 : Option Addr) (c2 : Nat) (e1 : sclE c (scfO p (capV p.pts, false) c lim) = 0) (e2 : (sclO c (scfO p (capV p.pts, false) c lim)).length = c.length) h => by
    have h2 := Scaled_any c (scfO p (capV p.pts, false) c lim) a2 c2 W hlc h
    rw [e1, e2] at h2
    exact h2)
  have HRG := zH (fun W (a1 a2 : Option Addr) (c1 c2 : Nat) h1 h2 => by
    have := Ranges_any c c a1 a2 c1 c2 W hlc h1 h2
    rw [decide_eq_true (show c = c from rfl)] at this
    exact this)
  have HCA := zH (fun W (h0 : (chP p).2 = 0) (hb : Below w.heap.size w W) => rCapacity_any p a cap W (by have := (chP_ok h0).pts.two; omega) (by have := (chP_ok h0).pts.few; omega) (hr.to hb))
  have HCK := zH (fun W (k : Nat) (a1 : Option Addr) (c1 : Nat) (h0 : (chP p).2 = 0) (h1 : Reads W a1 (p.pts.length * 2) (fracs (btlQ k p.pts))) => by
    have h2 := rCapacity_any (btPl p k) a1 c1 W (by show 0 < (btlQ k p.pts).length; rw [btl_len]; have := (chP_ok h0).pts.two; omega) (by show (btlQ k p.pts).length ≤ 100000; rw [btl_len]; have := (chP_ok h0).pts.few; omega) (by show Reads W a1 ((btlQ k p.pts).length * 2) _; rw [btl_len]; exact h1)
    unfold plC btPl at h2
    dsimp only at h2
    rw [btl_len] at h2
    exact h2)
  have HPK := zH (fun W (k : Nat) (a1 : Option Addr) (c1 : Nat) (h10 : p.pts.length ≤ 10) (e1 : (chP (btPl p k)).2 = 0) (h1 : Reads W a1 (p.pts.length * 2) (fracs (btlQ k p.pts))) => by
    have h2 := rPlantErr_any (btPl p k) a1 c1 W (by show (btlQ k p.pts).length ≤ 100000; rw [btl_len]; omega) (by show Reads W a1 ((btlQ k p.pts).length * 2) _; rw [btl_len]; exact h1)
    rw [e1] at h2
    unfold plC btPl at h2
    dsimp only at h2
    rw [btl_len] at h2
    exact h2)
  have HYK := zH (fun W (k : Nat) (a1 : Option Addr) (c1 : Nat) (h10 : p.pts.length ≤ 10) (h1 : Reads W a1 (p.pts.length * 2) (fracs (btlQ k p.pts))) => (show Calls Tryz.prog 25 #[.agg #[.slice a1 p.pts.length c1, .int .i64 p.pump, .int .i64 p.on, .int .i64 p.off]] W (fun e w' => ∃ a' c', e = .returned (.agg #[.slice a' p.pts.length c', .int .i64 p.pump, .int .i64 p.on, .int .i64 p.off]) ∧ Reads w' a' (p.pts.length * 2) (fracs (btlQ k p.pts)) ∧ Below W.heap.size W w') from by
    have h2 := rCopyPlant_any (btPl p k) a1 c1 W (by show (btlQ k p.pts).length ≤ 100000; rw [btl_len]; omega) (by show Reads W a1 ((btlQ k p.pts).length * 2) _; rw [btl_len]; exact h1)
    unfold plC btPl at h2
    dsimp only at h2
    rw [btl_len] at h2
    refine h2.mono ?_
    rintro e w' ⟨a', c', rfl, -, h4, h5, -⟩
    unfold plC at *
    dsimp only at h4 ⊢
    rw [btl_len] at h4 ⊢
    exact ⟨a', c', rfl, h4, h5⟩))
  have HSF := zH (fun W (a1 : Option Addr) (c1 : Nat) (a2 : Option Addr) (c2 : Nat) (h10 : p.pts.length ≤ 10) h1 h2 => ScaleFor_any p (capV p.pts, false) c lim a1 a2 c1 c2 W (by omega) hlc h2 h1)
  have HPO := zH (fun W (a1 : Option Addr) (c1 : Nat) (a2 : Option Addr) (c2 : Nat) (h10 : p.pts.length ≤ 10) (e2 : (sclO c (scfO p (capV p.pts, false) c lim)).length = c.length) (e3 : opLE p (capV p.pts) (sclO c (scfO p (capV p.pts, false) c lim)) lim = 0) (e4 : prmB p (capV p.pts, false) (sclO c (scfO p (capV p.pts, false) c lim)) lim = true) (h1 : Reads W a1 (p.pts.length * 2) (fracs p.pts)) (h2 : Reads W a2 (c.length * 2) (fracs (sclO c (scfO p (capV p.pts, false) c lim)))) => by
    have h3 := IsPermitted_any p (capV p.pts, false) (sclO c (scfO p (capV p.pts, false) c lim)) lim a1 a2 c1 c2 W (by omega) (by rw [e2]; exact hlc) (by rw [e2]; exact h2) h1
    dsimp only at h3
    rw [e2, e3, e4] at h3
    exact h3)
  have HPL := zH (fun W (k j : Nat) (a1 : Option Addr) (c1 : Nat) (a2 : Option Addr) (c2 : Nat) (h10 : p.pts.length ≤ 10) (e3 : opLE (btPl p k) (capV (btlQ k p.pts)) c lim = 0) (e4 : prmB (btPl p k) (capV (btlQ k p.pts), false) c lim = decide (k = j)) (h1 : Reads W a1 (p.pts.length * 2) (fracs (btlQ k p.pts))) h2 => by
    have h3 := IsPermitted_any (btPl p k) (capV (btlQ k p.pts), false) c lim a1 a2 c1 c2 W (by show (btlQ k p.pts).length ≤ 1000; rw [btl_len]; omega) hlc h2 (by show Reads W a1 ((btlQ k p.pts).length * 2) _; rw [btl_len]; exact h1)
    dsimp only at h3
    rw [e3, e4] at h3
    unfold plC btPl at h3
    dsimp only at h3
    rw [btl_len] at h3
    exact h3)
  have HRCC := zH (fun W (hb : Below w.heap.size w W) => hrc.to hb)
  have HF1 := zH (fwE1_val (p := p) (c := c) (lim := lim))
  have HFB := zH (fun (h : fwE1 p c lim ≠ 0) => fw_bad h)
  have HFG := zH (fun (h : fwE1 p c lim = 0) => fw_good h)
  have HB1 := zH (fun (h : (chP p).2 ≠ 0) => bp_bad (k := count) h)
  have HB2 := zH (fun (h : (chP p).2 = 0) (hk : wthn count 1 5 = false) => bp_out h hk)
  have HB3 := zH (fun (h : (chP p).2 = 0) (hk : wthn count 1 5 = true) (hb : bokB count p.pts = false) => bp_large h hk hb)
  have HB4 := zH (fun (h : (chP p).2 = 0) (hk : wthn count 1 5 = true) (hb : bokB count p.pts = true) => bp_in h hk hb)
  have HLO := zH (fun (j k : Nat) (h1 : (chP p).2 = 0) (h2 : (chCl c).2 = 0) (h3 : unl (wthn lim 0 1000) 2 = 0) (hK : fwK p c lim = some j) hk1 hkj => bt_loop (k := k) h1 h2 h3 hK hk1 hkj)
  have HKL := zH (fun j (h : fwK p c lim = some j) => fwK_le h)
  have HSO := zH (fun (h1 : (chP p).2 = 0) (h2 : (chCl c).2 = 0) (h3 : unl (wthn lim 0 1000) 2 = 0) (h : scfE p (capV p.pts, false) c lim = 0) => sc_own h1 h2 h3 h)
  obtain ⟨m, hm⟩ : ∃ n, p.pts.length = n := ⟨_, rfl⟩
  obtain ⟨n, hn⟩ : ∃ n, c.length = n := ⟨_, rfl⟩
  obtain ⟨b1, hb1⟩ : ∃ b, clssB c = b := ⟨_, rfl⟩
  obtain ⟨b2, hb2⟩ : ∃ b, shrtB c = b := ⟨_, rfl⟩
  obtain ⟨ch, hch⟩ : ∃ b, (chP p).2 = b := ⟨_, rfl⟩
  obtain ⟨ce, hce⟩ : ∃ b, (chCl c).2 = b := ⟨_, rfl⟩
  obtain ⟨le, hle⟩ : ∃ b, unl (wthn lim 0 1000) 2 = b := ⟨_, rfl⟩
  obtain ⟨wi, hwi⟩ : ∃ b, wthn count 1 5 = b := ⟨_, rfl⟩
  obtain ⟨bE, hbE⟩ : ∃ b, bpE p count = b := ⟨_, rfl⟩
  obtain ⟨⟨ql, q1, q2, q3⟩, hbO⟩ : ∃ b, bpO p count = b := ⟨_, rfl⟩
  obtain ⟨f1, hf1⟩ : ∃ b, fwE1 p c lim = b := ⟨_, rfl⟩
  obtain ⟨fE, hfE⟩ : ∃ b, fwE p c lim = b := ⟨_, rfl⟩
  obtain ⟨fO, hfO⟩ : ∃ b, fwO p c lim = b := ⟨_, rfl⟩
  obtain ⟨K, hK⟩ : ∃ b, fwK p c lim = b := ⟨_, rfl⟩
  obtain ⟨C0, hC0⟩ : ∃ b, capV p.pts = b := ⟨_, rfl⟩
  rw [hC0] at HSQ HCA HSF HPO HSO
  obtain ⟨sO, hsO⟩ : ∃ b, scfO p (C0, false) c lim = b := ⟨_, rfl⟩
  obtain ⟨sE, hsE⟩ : ∃ b, scfE p (C0, false) c lim = b := ⟨_, rfl⟩
  rw [hsO] at HSQ HSF HPO HSO
  rw [hsE] at HSF HSO
  obtain ⟨mm, hmm⟩ : ∃ b, sclO c sO = b := ⟨_, rfl⟩
  rw [hmm] at HSQ HPO HSO
  have HM := zH hm
  have HWV : Hid (wi = true ↔ 1 ≤ count ∧ count ≤ 5) := zH (by rw [← hwi]; exact wthn_iff)
  unfold BpPost at HBO
  unfold BtPost at HRB
  rw [hb1] at HCL HC22
  rw [hb2] at HSH
  rw [hch] at HPE HRB HRF HCA HCK HF1 HB1 HB2 HB3 HB4 HLO HSO
  rw [hce] at HCE HSH HRF HS1 HF1 HLO HSO
  rw [hle] at HLM HRF HF1 HLO HSO
  rw [show (decide (1 ≤ count) && decide (count ≤ 5)) = wi from hwi] at HWI
  rw [hwi] at HB2 HB3 HB4
  rw [hbE] at HBO HB1 HB2 HB3 HB4
  rw [hbO] at HBO HB1 HB2 HB3 HB4
  rw [hf1] at HF1 HFB HFG
  rw [hfE] at HFF HFB HFG
  rw [hfO] at HFF HFB HFG
  rw [hK] at HRF HFG HLO HKL
  rw [hm] at HFW HPE HCPY HBO HBK HFF HSB HRB HCK HPK HYK HSF HPO HPL
  rw [hn] at HRCC HCL HC22 HCE HSH HCR HFF HRF HS1 HSQ HRG HSF HPO HPL HSO ⊢
  clear hn hb1 hb2 hch hce hle hwi hbE hbO hf1 hfE hfO hK hC0 hsO hsE hmm hr hrc hlc
  unfold plC at HFW HPE HCPY HBO HBK HFF HSZ HRB HRF HCA HSF HPO ⊢
  dsimp only at HBO HSZ HB1 HB2 HB3 HB4 HPO HSF ⊢
  rw [hm] at HFW HPE HCPY HBO HBK HFF HRB HRF HCA HSF HPO ⊢
  clear hm
  go_enter Tryz.func13, Tryz.ntmps13
  go_wp2_with fail
  obtain ⟨W, hW⟩ : ∃ W, (w.alloc (.cells #[.slice a m cap, .int .i64 p.pump, .int .i64 p.on, .int .i64 p.off] 44)).alloc (.cells #[.slice ac n cc, .int .i64 lim] 124) = W := ⟨_, rfl⟩
  rw [hW]
  have K3 : Hid (Blk W w.heap.size #[.slice a m cap, .int .i64 p.pump, .int .i64 p.on, .int .i64 p.off]) := by subst hW; exact zH ((Blk.new _ _ _).alloc _)
  have K4 : Hid (Blk W (w.heap.size + 1) #[.slice ac n cc, .int .i64 lim]) := by subst hW; exact zH (Blk.newAt _ _ _ (by simp))
  have HB : Hid (Below w.heap.size w W) := by subst hW; exact zH (bAlloc (bAlloc (bSelf w) _) _)
  clear hW
  refine (HAW.out _).mono ?_
  rintro e y1 ⟨rfl, hb⟩
  replace K3 := zH (K3.out.to hb)
  replace K4 := zH (K4.out.to hb)
  replace HB := zH (bThen HB.out hb)

  clear hb HAW
  go_upto_region 3 with (fail)
  go_cut [56] from 31 to 55 (fun s56 wc => ∃ b, s56 = .bool b ∧ (b = false → m ≤ 10 ∧ n ≤ 22) ∧ Hid (Below y1.heap.size y1 wc))
  case first =>
    have HZ : Hid (Below y1.heap.size y1 y1) := zH (Below.refl _ _)
    obtain ⟨-, k3, -⟩ := K3.out
    go_wp2_with fail
    clear k3
    refine (HFW.out _).mono ?_
    rintro e y2 ⟨rfl, hb⟩
    replace K3 := zH (K3.out.to hb)
    replace K4 := zH (K4.out.to hb)
    replace HB := zH (bThen HB.out hb)
    replace HZ := zH (bThen HZ.out hb)
    clear hb
    by_cases h10 : m ≤ 10
    case neg =>
      rw [decide_eq_false (show ¬ ((m : Int) ≤ 10) by omega)]
      go_wp2_with fail
      go_meet
      case rel => exact ⟨true, rfl, fun h => (by cases h), HZ⟩
    rw [decide_eq_true (show ((m : Int) ≤ 10) by omega)]
    obtain ⟨-, k4, -⟩ := K4.out
    go_wp2_with fail
    clear k4
    refine (HCL.out _ HB.out).mono ?_
    rintro e y3 ⟨rfl, hb⟩
    replace K3 := zH (K3.out.to hb)
    replace K4 := zH (K4.out.to hb)
    replace HB := zH (bThen HB.out hb)
    replace HZ := zH (bThen HZ.out hb)
    clear hb
    cases b1
    case false =>
      go_wp2_with fail
      go_meet
      case rel => exact ⟨true, rfl, fun h => (by cases h), HZ⟩
    have h22 := HC22.out (by first | rfl | trivial)
    obtain ⟨-, k3, -⟩ := K3.out
    go_wp2_with fail
    clear k3
    refine (HPE.out _ h10 HB.out).mono ?_
    rintro e y4 ⟨rfl, hb⟩
    replace K3 := zH (K3.out.to hb)
    replace K4 := zH (K4.out.to hb)
    replace HB := zH (bThen HB.out hb)
    replace HZ := zH (bThen HZ.out hb)
    clear hb
    by_cases h0 : ch = 0
    case neg =>
      have h0' : (ch == 0) = false := by simpa using h0
      go_wp2_with fail
      go_meet
      case rel => exact ⟨_, rfl, fun _ => ⟨h10, h22⟩, HZ⟩
    subst h0
    obtain ⟨-, k4, -⟩ := K4.out
    go_wp2_with fail
    clear k4
    refine (HCE.out _ HB.out).mono ?_
    rintro e y5 ⟨rfl, hb⟩
    replace K3 := zH (K3.out.to hb)
    replace K4 := zH (K4.out.to hb)
    replace HB := zH (bThen HB.out hb)
    replace HZ := zH (bThen HZ.out hb)
    clear hb
    by_cases h1 : ce = 0
    case neg =>
      have h1' : (ce == 0) = false := by simpa using h1
      go_wp2_with fail
      go_meet
      case rel => exact ⟨_, rfl, fun _ => ⟨h10, h22⟩, HZ⟩
    subst h1
    obtain ⟨-, k4, -⟩ := K4.out
    go_wp2_with fail
    clear k4
    refine (HSH.out _ (by first | rfl | trivial) HB.out).mono ?_
    rintro e y6 ⟨rfl, hb⟩
    replace K3 := zH (K3.out.to hb)
    replace K4 := zH (K4.out.to hb)
    replace HB := zH (bThen HB.out hb)
    replace HZ := zH (bThen HZ.out hb)
    clear hb
    cases b2
    case false =>
      go_wp2_with fail
      go_meet
      case rel => exact ⟨true, rfl, fun h => (by cases h), HZ⟩
    go_wp2_with fail
    go_meet
    case rel => exact ⟨_, rfl, fun _ => ⟨h10, h22⟩, HZ⟩
  obtain ⟨y7, hwo⟩ : ∃ wo, wo = wc := ⟨_, rfl⟩
  subst hwo
  obtain ⟨b, rfl, hbb, hb⟩ := hcut
  replace hb := hb.out
  replace K3 := zH (K3.out.to hb)
  replace K4 := zH (K4.out.to hb)
  replace HB := zH (bThen HB.out hb)
  clear hb HFW HCL HC22 HSH
  cases b
  case true =>
    go_wp2_with fail
    go_ret
    exact ⟨rfl, HB.out⟩
  obtain ⟨h10, h22⟩ := hbb rfl
  replace HCPY := zH (fun W => HCPY.out W h10)
  replace HPE := zH (fun W => HPE.out W h10)
  replace HCR := zH (fun W => HCR.out W h22)
  replace HBO := zH (fun W a1 c1 => HBO.out W a1 c1 h10)
  replace HBK := zH (fun W k a1 c1 => HBK.out W k a1 c1 h10)
  replace HFF := zH (fun W a1 c1 a2 c2 => HFF.out W a1 c1 a2 c2 h10)
  replace HSB := zH (fun W k a1 a2 c1 c2 => HSB.out W k a1 a2 c1 c2 h10)
  replace HPK := zH (fun W k a1 c1 => HPK.out W k a1 c1 h10)
  replace HYK := zH (fun W k a1 c1 => HYK.out W k a1 c1 h10)
  replace HSF := zH (fun W a1 c1 a2 c2 => HSF.out W a1 c1 a2 c2 h10)
  replace HPO := zH (fun W a1 c1 a2 c2 => HPO.out W a1 c1 a2 c2 h10)
  replace HPL := zH (fun W k j a1 c1 a2 c2 => HPL.out W k j a1 c1 a2 c2 h10)
  clear hbb
  obtain ⟨-, k3, -⟩ := K3.out
  go_wp2_with fail
  clear k3
  refine (HCPY.out _ HB.out).mono ?_
  rintro e y8 ⟨a1, c1, rfl, -, hr1, hb, -⟩
  replace K3 := zH (K3.out.to hb)
  replace K4 := zH (K4.out.to hb)
  replace HB := zH (bThen HB.out hb)
  clear hb
  have HR1 := zH hr1
  clear hr1
  unfold plC
  rw [HM.out] at HR1 ⊢
  go_wp2_with fail
  refine (HBO.out _ _ _ HR1.out).mono ?_
  rintro e y9 ⟨aQ, cQ, rfl, -, hrQ, hb⟩
  replace K3 := zH (K3.out.to hb)
  replace K4 := zH (K4.out.to hb)
  replace HB := zH (bThen HB.out hb)
  have HRQ := zH hrQ
  obtain ⟨nq, hnq⟩ : ∃ n, ql.length = n := ⟨_, rfl⟩
  have HNQ := zH hnq
  rw [hnq] at HRQ ⊢
  clear hb hrQ HR1 HBO hnq
  go_wp2_with fail
  obtain ⟨y10, hy10⟩ : ∃ u, y9.alloc (.cells #[.slice aQ nq cQ, .int .i64 q1, .int .i64 q2, .int .i64 q3] 44) = u := ⟨_, rfl⟩
  rw [hy10]
  have hb : Below y9.heap.size y9 y10 := by subst hy10; exact bAlloc (bSelf _) _
  have K7 : Hid (Blk y10 y9.heap.size #[.slice aQ nq cQ, .int .i64 q1, .int .i64 q2, .int .i64 q3]) := by subst hy10; exact zH (Blk.new _ _ _)
  replace K3 := zH (K3.out.to hb)
  replace K4 := zH (K4.out.to hb)
  replace HB := zH (bThen HB.out hb)
  replace HRQ := zH (HRQ.out.to hb)
  clear hb hy10
  refine wp_region_tree (by kernel_rfl) (fun wd hwd => ?_)
  have T := zH hwd
  clear hwd
  refine WTq 0 ?_; apply Exists.intro; refine ⟨fun w1 hb1 => ?_, ?_⟩; (focus (((obtain ⟨-, k3, -⟩ := K3.out.to (T.out.trans hb1)); have hb1 := zH hb1; go_simp); (try (go_bits; try go_simp)); (try (rw [if_pos (by omega)]; try go_simp)); (first | done | (with_reducible rfl) | exact rfl)))
  simp only [Act.put, zzT, zzO, zzS]
  refine WTq 2 ?_; apply Exists.intro; refine ⟨fun w1 hb1 => ?_, ?_⟩; (focus (((obtain ⟨-, k4, -⟩ := K4.out.to (T.out.trans hb1)); have hb1 := zH hb1; go_simp); (try (go_bits; try go_simp)); (try (rw [if_pos (by omega)]; try go_simp)); (first | done | (with_reducible rfl) | exact rfl)))
  simp only [Act.put, zzT, zzO, zzS]
  refine WTq 3 ?_; apply Exists.intro; refine ⟨fun w1 hb1 => ?_, ?_⟩; (focus (((obtain ⟨-, k4, -⟩ := K4.out.to (T.out.trans hb1)); have hb1 := zH hb1; go_simp); (try (go_bits; try go_simp)); (try (rw [if_pos (by omega)]; try go_simp)); (first | done | (with_reducible rfl) | exact rfl)))
  simp only [Act.put, zzT, zzO, zzS]
  refine WTq 5 ?_; apply Exists.intro; refine ⟨fun w1 hb1 => ?_, ?_⟩; (focus (((obtain ⟨-, k4, -⟩ := K4.out.to (T.out.trans hb1)); have hb1 := zH hb1; go_simp); (try (go_bits; try go_simp)); (try (rw [if_pos (by omega)]; try go_simp)); (first | done | (with_reducible rfl) | exact rfl)))
  simp only [Act.put, zzT, zzO, zzS]
  refine WTq 6 ?_; apply Exists.intro; refine ⟨fun w1 hb1 => ?_, ?_⟩; (focus (((obtain ⟨-, k4, -⟩ := K4.out.to (T.out.trans hb1)); have hb1 := zH hb1; go_simp); (try (go_bits; try go_simp)); (try (rw [if_pos (by omega)]; try go_simp)); (first | done | (with_reducible rfl) | exact rfl)))
  simp only [Act.put, zzT, zzO, zzS]
  refine WT_one 1 rfl (by kernel_rfl) ?_
  unfold stepT
  go_wp2_with fail
  refine (HCPY.out _ (bThen HB.out T.out)).mono ?_
  rintro e g1 ⟨a1, c1, rfl, -, hr1, hb, -⟩
  have HR1 := zH hr1
  clear hr1
  unfold plC
  rw [HM.out] at HR1 ⊢
  have hbd := zH (hb.mono T.out.size)
  replace T := zH (bThen T.out hb)
  clear hb
  go_wp2_with fail
  refine ⟨hbd.out, ?_⟩
  clear hbd
  refine WT_one 4 rfl (by kernel_rfl) ?_
  unfold stepT
  go_wp2_with fail
  refine (HCR.out _ (bThen HB.out T.out)).mono ?_
  rintro e g2 ⟨a2, c2, rfl, -, hr2, hb, -⟩
  have HR2 := zH hr2
  clear hr2
  replace HR1 := zH (HR1.out.to hb)
  have hbd := zH (hb.mono T.out.size)
  replace T := zH (bThen T.out hb)
  clear hb
  go_wp2_with fail
  refine ⟨hbd.out, ?_⟩
  clear hbd
  refine WT_one 7 rfl (by kernel_rfl) ?_
  unfold stepT
  go_wp2_with fail
  refine (HFF.out _ _ _ _ _ HR1.out HR2.out).mono ?_
  rintro e g3 ⟨rfl, hb⟩
  clear HR1 HR2
  have hbd := zH (hb.mono T.out.size)
  replace T := zH (bThen T.out hb)
  clear hb
  go_wp2_with fail
  refine ⟨hbd.out, ?_⟩
  clear hbd
  refine WTq 8 ?_; apply Exists.intro; refine ⟨fun w1 hb1 => ?_, ?_⟩; (focus ((have hb1 := zH hb1; go_simp); (try (go_bits; try go_simp)); (try (rw [if_pos (by omega)]; try go_simp)); (first | done | (with_reducible rfl) | exact rfl)))
  simp only [Act.put, zzT, zzO, zzS]
  refine WTq 9 ?_; apply Exists.intro; refine ⟨fun w1 hb1 => ?_, ?_⟩; (focus ((have hb1 := zH hb1; go_simp); (try (go_bits; try go_simp)); (try (rw [if_pos (by omega)]; try go_simp)); (first | done | (with_reducible rfl) | exact rfl)))
  simp only [Act.put, zzT, zzO, zzS]
  refine WTq 10 ?_; apply Exists.intro; refine ⟨fun w1 hb1 => ?_, ?_⟩; (focus ((have hb1 := zH hb1; go_simp); (try (go_bits; try go_simp)); (try (rw [if_pos (by omega)]; try go_simp)); (first | done | (with_reducible rfl) | exact rfl)))
  simp only [Act.put, zzT, zzO, zzS]
  refine WTq 11 ?_; apply Exists.intro; refine ⟨fun w1 hb1 => ?_, ?_⟩; (focus ((have hb1 := zH hb1; go_simp); (try (go_bits; try go_simp)); (try (rw [if_pos (by omega)]; try go_simp)); (first | done | (with_reducible rfl) | exact rfl)))
  simp only [Act.put, zzT, zzO, zzS]
  refine WTq 12 ?_; apply Exists.intro; refine ⟨fun w1 hb1 => ?_, ?_⟩; (focus ((have hb1 := zH hb1; go_simp); (try (go_bits; try go_simp)); (try (rw [if_pos (by omega)]; try go_simp)); (first | done | (with_reducible rfl) | exact rfl)))
  simp only [Act.put, zzT, zzO, zzS]
  refine WT_done (by kernel_rfl) ?_
  replace HB := zH (bThen HB.out T.out)
  replace K3 := zH (K3.out.to T.out)
  replace K4 := zH (K4.out.to T.out)
  replace HRQ := zH (HRQ.out.to T.out)
  replace K7 := zH (K7.out.to T.out)
  clear T
  clear HFF
  obtain ⟨z1, hz1⟩ : ∃ z, z = g3 := ⟨_, rfl⟩
  subst hz1
  obtain ⟨-, k3, -⟩ := K3.out
  go_wp2_with fail
  clear k3
  refine (HPE.out _ HB.out).mono ?_
  rintro e z2 ⟨rfl, hb⟩
  replace K3 := zH (K3.out.to hb)
  replace K4 := zH (K4.out.to hb)
  replace HB := zH (bThen HB.out hb)
  replace HRQ := zH (HRQ.out.to hb)
  replace K7 := zH (K7.out.to hb)
  clear hb HPE
  by_cases h0 : ch = 0
  case neg =>
    have hv : f1 = ch := HF1.out.trans (if_neg h0)
    obtain ⟨e1, e2⟩ := HFB.out (by rw [hv]; exact h0)
    obtain ⟨e3, e4⟩ := HB1.out h0
    injection e4 with e5 e6 e7 e8
    rw [hv] at e1
    replace e1 := e1.symm
    replace e3 := e3.symm
    subst e1 e2 e3 e5 e6 e7 e8
    obtain rfl : nq = 0 := HNQ.out.symm
    have h0'' : (ch != 0) = true := by simpa using h0
    obtain ⟨-, k7, -⟩ := K7.out
    go_wp2_with fail
    refine (HSZ.out _ _ _).mono ?_
    rintro e z3 ⟨rfl, hb⟩
    replace HB := zH (bThen HB.out hb)
    clear hb k7
    go_wp2_with fail
    go_ret
    exact ⟨rfl, HB.out⟩
  subst h0
  replace HRB := zH (fun W k hk hb => HRB.out W k (by first | rfl | trivial) hk hb)
  replace HRF := zH (fun W h1 h2 hb => HRF.out W (by first | rfl | trivial) h1 h2 hb)
  replace HCA := zH (fun W hb => HCA.out W (by first | rfl | trivial) hb)
  replace HCK := zH (fun W k a1 c1 h1 => HCK.out W k a1 c1 (by first | rfl | trivial) h1)
  replace HB2 := zH (fun hk => HB2.out (by first | rfl | trivial) hk)
  replace HB3 := zH (fun hk hb => HB3.out (by first | rfl | trivial) hk hb)
  replace HB4 := zH (fun hk hb => HB4.out (by first | rfl | trivial) hk hb)
  replace HLO := zH (fun j k h2 h3 hK hk1 hkj => HLO.out j k (by first | rfl | trivial) h2 h3 hK hk1 hkj)
  replace HSO := zH (fun h2 h3 h => HSO.out (by first | rfl | trivial) h2 h3 h)
  have HF2 := zH (HF1.out.trans (if_pos (by first | rfl | trivial)))
  clear HB1 HF1
  go_upto_region 10 with (fail)
  go_cut [12, 13] from 96 to 103 (fun s12 s13 wc => ∃ (kk : Int) (B : Nat) (aB : Option Addr) (cB : Nat), s12 = .pointer (some ⟨B, 0, none⟩) ∧ s13 = .bool (bokB kk p.pts) ∧ (1 ≤ count → count ≤ 5 → kk = count) ∧ Hid (Blk wc B #[.slice aB m cB, .int .i64 p.pump, .int .i64 p.on, .int .i64 p.off]) ∧ Hid (Reads wc aB (m * 2) (fracs (btlQ kk p.pts))) ∧ Hid (Below z2.heap.size z2 wc))
  case first =>
    obtain ⟨-, k3, -⟩ := K3.out
    have hc3 : count < 1 ∨ (1 ≤ count ∧ count ≤ 5) ∨ 5 < count := by omega
    rcases hc3 with hc3 | hc3 | hc3
    · have e1 : max count 1 = 1 := by omega
      have e2 : min (1 : Int) 5 = 1 := by decide
      have e3 : count ≤ 1 := by omega
      have HRB1 := zH (fun W hb => HRB.out W (1) (by omega) hb)
      clear HRB
      go_wp2_with fail
      clear k3
      refine (HRB1.out _ HB.out).mono ?_
      rintro e z3 ⟨aB, cB, rfl, -, hrB, hb, -⟩
      have HRBB := zH hrB
      have HZ := zH hb
      clear hrB hb HRB1
      go_wp2_with fail
      go_meet
      case rel => exact ⟨1, z3.heap.size, aB, cB, rfl, rfl, by omega, zH (Blk.new _ _ _), zH (HRBB.out.alloc _), zH (bAlloc HZ.out _)⟩
    · have e1 : max count 1 = count := by omega
      have e2 : min count 5 = count := by omega
      obtain ⟨e3, e4⟩ := hc3
      have HRB1 := zH (fun W hb => HRB.out W (count) (by omega) hb)
      clear HRB
      go_wp2_with fail
      clear k3
      refine (HRB1.out _ HB.out).mono ?_
      rintro e z3 ⟨aB, cB, rfl, -, hrB, hb, -⟩
      have HRBB := zH hrB
      have HZ := zH hb
      clear hrB hb HRB1
      go_wp2_with fail
      go_meet
      case rel => exact ⟨count, z3.heap.size, aB, cB, rfl, rfl, by omega, zH (Blk.new _ _ _), zH (HRBB.out.alloc _), zH (bAlloc HZ.out _)⟩
    · have e1 : max count 1 = count := by omega
      have e2 : min count 5 = 5 := by omega
      have e3 : 1 ≤ count := by omega
      have HRB1 := zH (fun W hb => HRB.out W (5) (by omega) hb)
      clear HRB
      go_wp2_with fail
      clear k3
      refine (HRB1.out _ HB.out).mono ?_
      rintro e z3 ⟨aB, cB, rfl, -, hrB, hb, -⟩
      have HRBB := zH hrB
      have HZ := zH hb
      clear hrB hb HRB1
      go_wp2_with fail
      go_meet
      case rel => exact ⟨5, z3.heap.size, aB, cB, rfl, rfl, by omega, zH (Blk.new _ _ _), zH (HRBB.out.alloc _), zH (bAlloc HZ.out _)⟩
  obtain ⟨z4, hwo⟩ : ∃ wo, wo = wc := ⟨_, rfl⟩
  subst hwo
  obtain ⟨kk, B12, aB, cB, rfl, rfl, hkk, K12, HRB2, hb⟩ := hcut
  replace hb := hb.out
  replace K3 := zH (K3.out.to hb)
  replace K4 := zH (K4.out.to hb)
  replace HB := zH (bThen HB.out hb)
  replace HRQ := zH (HRQ.out.to hb)
  replace K7 := zH (K7.out.to hb)
  clear hb HRB
  go_upto_block 0 with (fail)
  go_cut [13] from 104 to 134 (fun _ wc => Hid (Below z4.heap.size z4 wc))
  case first =>
    obtain ⟨-, k7, -⟩ := K7.out
    go_upto_if 112 with (go_at_call 42; refine (HWI.out _).mono ?_; rintro e w' ⟨rfl, rfl⟩)
    cases wi with
    | false =>
      obtain ⟨rfl, e4⟩ := HB2.out (by first | rfl | trivial)
      injection e4 with e5 e6 e7 e8
      subst e5 e6 e7 e8
      obtain rfl : nq = 0 := HNQ.out.symm
      go_wp2_with fail
      refine (HSZ.out _ _ _).mono ?_
      rintro e z5 ⟨rfl, hb⟩
      have HZ := zH hb
      clear hb k7
      go_wp2_with fail
      go_meet
      case rel => exact HZ
    | true =>
      obtain ⟨w1, w2⟩ := HWV.out.1 (by first | rfl | trivial)
      obtain rfl : kk = count := hkk w1 w2
      obtain ⟨bk, hbk⟩ : ∃ b, bokB kk p.pts = b := ⟨_, rfl⟩
      rw [hbk] at HB3 HB4 ⊢
      clear hbk
      cases bk with
      | false =>
        obtain ⟨rfl, e4⟩ := HB3.out (by first | rfl | trivial) (by first | rfl | trivial)
        injection e4 with e5 e6 e7 e8
        subst e5 e6 e7 e8
        obtain rfl : nq = 0 := HNQ.out.symm
        go_wp2_with fail
        refine (HSZ.out _ _ _).mono ?_
        rintro e z5 ⟨rfl, hb⟩
        have HZ := zH hb
        clear hb k7
        go_wp2_with fail
        go_meet
        case rel => exact HZ
      | true =>
        obtain ⟨rfl, e4⟩ := HB4.out (by first | rfl | trivial) (by first | rfl | trivial)
        unfold btPl at e4
        injection e4 with e5 e6 e7 e8
        subst e5 e6 e7 e8
        have hnm : nq = m := by rw [← HNQ.out, btl_len, HM.out]
        subst hnm
        obtain ⟨-, k12, -⟩ := K12.out
        go_wp2_with fail
        refine (HSB.out _ _ _ _ _ _ HRQ.out HRB2.out).mono ?_
        rintro e z5 ⟨rfl, hb⟩
        have HZ := zH hb
        clear hb k7 k12
        go_wp2_with fail
        go_meet
        case rel => exact HZ
  obtain ⟨z6, hwo⟩ : ∃ wo, wo = wc := ⟨_, rfl⟩
  subst hwo
  replace hcut := hcut.out
  replace K3 := zH (K3.out.to hcut)
  replace K4 := zH (K4.out.to hcut)
  replace HB := zH (bThen HB.out hcut)
  clear hcut HB2 HB3 HB4 HWI HWV HSZ HSB HRQ K7 K12 HRB2 HNQ hkk
  obtain ⟨-, k4, -⟩ := K4.out
  go_wp2_with fail
  clear k4
  refine (HCE.out _ HB.out).mono ?_
  rintro e z7 ⟨rfl, hb⟩
  replace K3 := zH (K3.out.to hb)
  replace K4 := zH (K4.out.to hb)
  replace HB := zH (bThen HB.out hb)
  clear hb HCE
  by_cases h1 : ce = 0
  case neg =>
    have hv : f1 = ce := HF2.out.trans (if_neg h1)
    obtain ⟨e1, e2⟩ := HFB.out (by rw [hv]; exact h1)
    rw [hv] at e1
    replace e1 := e1.symm
    subst e1 e2
    have h1' : (ce == 0) = false := by simpa using h1
    have h1'' : (ce != 0) = true := by simpa using h1
    go_wp2_with fail
    go_ret
    exact ⟨rfl, HB.out⟩
  subst h1
  have HF3 := zH (HF2.out.trans (if_pos (by first | rfl | trivial)))
  clear HF2
  obtain ⟨-, k4, -⟩ := K4.out
  go_wp2_with fail
  clear k4
  refine (HLM.out _).mono ?_
  rintro e w' ⟨rfl, rfl⟩
  clear HLM
  by_cases h2 : le = 0
  case neg =>
    obtain ⟨e1, e2⟩ := HFB.out (by rw [HF3.out]; exact h2)
    rw [HF3.out] at e1
    replace e1 := e1.symm
    subst e1 e2
    have h1'' : (le != 0) = true := by simpa using h2
    go_wp2_with fail
    go_ret
    exact ⟨rfl, HB.out⟩
  subst h2
  obtain ⟨e1, e2⟩ := HFG.out (by first | exact HF3.out | rfl | trivial)
  have HE1 := zH e1
  have HE2 := zH e2
  clear e1 e2 HFG HFB HF3
  replace HRF := zH (fun W hb => HRF.out W (by first | rfl | trivial) (by first | rfl | trivial) hb)
  replace HS1 := zH (fun W a2 c2 h => HS1.out W a2 c2 (by first | rfl | trivial) h)
  replace HLO := zH (fun j k hK hk1 hkj => HLO.out j k (by first | rfl | trivial) (by first | rfl | trivial) hK hk1 hkj)
  replace HSO := zH (fun h => HSO.out (by first | rfl | trivial) (by first | rfl | trivial) h)
  obtain ⟨-, k3, -⟩ := K3.out
  obtain ⟨-, k4, -⟩ := K4.out
  go_wp2_with fail
  clear k3 k4
  refine (HRF.out _ HB.out).mono ?_
  rintro e z8 ⟨rfl, hb⟩
  replace K3 := zH (K3.out.to hb)
  replace K4 := zH (K4.out.to hb)
  replace HB := zH (bThen HB.out hb)
  clear hb HRF
  obtain ⟨kb, hkb⟩ : ∃ b, K.isSome = b := ⟨_, rfl⟩
  obtain ⟨kN, hkN⟩ : ∃ b, K.getD 0 = b := ⟨_, rfl⟩
  have HKB : Hid (kb = true → K = some kN) := zH (fun h => by
    rw [← hkN]
    cases K with
    | none => rw [← hkb] at h; cases h
    | some j => rfl)
  have hk5 : kN ≤ 5 := by
    rw [← hkN]
    cases hK' : K with
    | none => exact Nat.zero_le _
    | some j => exact (HKL.out j hK').2
  have HKV : Hid ((kb = true → fE = 0 ∧ fO = (kN : Int)) ∧ (kb = false → fE = 12 ∧ fO = 0)) := zH (by
    have e1 := HE1.out
    have e2 := HE2.out
    rw [hkb] at e1
    rw [hkN] at e2
    constructor
    · intro h; rw [e1, e2, h]; exact ⟨rfl, rfl⟩
    · intro h
      cases K with
      | none => rw [e1, e2, h, ← hkN]; exact ⟨rfl, rfl⟩
      | some j => rw [← hkb] at h; cases h)
  rw [hkb, hkN]
  clear hkb hkN HE1 HE2 HKL
  go_upto_region 25 with (fail)
  go_cut [182] from 161 to 181 (fun s182 wc => s182 = .bool false ∧ Hid (Below z8.heap.size z8 wc))
  case first =>
    cases kb with
    | false =>
      obtain ⟨rfl, rfl⟩ := HKV.out.2 rfl
      go_wp2_with fail
      go_meet
      case rel => exact ⟨rfl, zH (Below.refl _ _)⟩
    | true =>
      obtain ⟨rfl, rfl⟩ := HKV.out.1 rfl
      go_wp2_with fail
      go_meet
      case rel => exact ⟨rfl, zH (Below.refl _ _)⟩
  obtain ⟨z9, hwo⟩ : ∃ wo, wo = wc := ⟨_, rfl⟩
  subst hwo
  obtain ⟨rfl, hb⟩ := hcut
  replace hb := hb.out
  replace K3 := zH (K3.out.to hb)
  replace K4 := zH (K4.out.to hb)
  replace HB := zH (bThen HB.out hb)
  clear hb HKV
  obtain ⟨-, k4, -⟩ := K4.out
  go_wp2_with fail
  clear k4
  refine (HCR.out _ HB.out).mono ?_
  rintro e z10 ⟨a2, c2, rfl, -, hr2, hb, -⟩
  replace K3 := zH (K3.out.to hb)
  replace K4 := zH (K4.out.to hb)
  replace HB := zH (bThen HB.out hb)
  clear hb
  go_wp2_with fail
  refine (HS1.out _ _ _ hr2).mono ?_
  rintro e z11 ⟨aS, cS, rfl, -, hrS, hb⟩
  replace K3 := zH (K3.out.to hb)
  replace K4 := zH (K4.out.to hb)
  replace HB := zH (bThen HB.out hb)
  have HRS := zH hrS
  clear hb hr2 hrS HS1
  obtain ⟨-, k4, -⟩ := K4.out
  go_wp2_with fail
  clear k4
  refine (HRG.out _ _ _ _ _ HRS.out (HRCC.out _ HB.out)).mono ?_
  rintro e z12 ⟨rfl, hb⟩
  replace K3 := zH (K3.out.to hb)
  replace K4 := zH (K4.out.to hb)
  replace HB := zH (bThen HB.out hb)
  clear hb HRS HRG
  obtain ⟨-, k3, -⟩ := K3.out
  go_wp2_with fail
  clear k3
  refine (HCA.out _ HB.out).mono ?_
  rintro e z13 ⟨rfl, hb⟩
  replace K3 := zH (K3.out.to hb)
  replace K4 := zH (K4.out.to hb)
  replace HB := zH (bThen HB.out hb)
  clear hb HCA
  go_wp2_with fail
  obtain ⟨z14, hz14⟩ : ∃ u, z13.alloc (.cells #[.int .i64 C0, .bool false] 46) = u := ⟨_, rfl⟩
  rw [hz14]
  have hb : Below z13.heap.size z13 z14 := by subst hz14; exact bAlloc (bSelf _) _
  have K17 : Hid (Blk z14 z13.heap.size #[.int .i64 C0, .bool false]) := by subst hz14; exact zH (Blk.new _ _ _)
  replace K3 := zH (K3.out.to hb)
  replace K4 := zH (K4.out.to hb)
  replace HB := zH (bThen HB.out hb)
  clear hb hz14
  refine wp_region_tree (by kernel_rfl) (fun wd hwd => ?_)
  have T := zH hwd
  clear hwd
  refine WTq 0 ?_; apply Exists.intro; refine ⟨fun w1 hb1 => ?_, ?_⟩; (focus (((obtain ⟨-, k3, -⟩ := K3.out.to (T.out.trans hb1)); have hb1 := zH hb1; go_simp); (try (go_bits; try go_simp)); (try (rw [if_pos (by omega)]; try go_simp)); (first | done | (with_reducible rfl) | exact rfl)))
  simp only [Act.put, zzT, zzO, zzS]
  refine WTq 2 ?_; apply Exists.intro; refine ⟨fun w1 hb1 => ?_, ?_⟩; (focus (((obtain ⟨-, k17, -⟩ := K17.out.to (T.out.trans hb1)); have hb1 := zH hb1; go_simp); (try (go_bits; try go_simp)); (try (rw [if_pos (by omega)]; try go_simp)); (first | done | (with_reducible rfl) | exact rfl)))
  simp only [Act.put, zzT, zzO, zzS]
  refine WTq 3 ?_; apply Exists.intro; refine ⟨fun w1 hb1 => ?_, ?_⟩; (focus (((obtain ⟨-, k4, -⟩ := K4.out.to (T.out.trans hb1)); have hb1 := zH hb1; go_simp); (try (go_bits; try go_simp)); (try (rw [if_pos (by omega)]; try go_simp)); (first | done | (with_reducible rfl) | exact rfl)))
  simp only [Act.put, zzT, zzO, zzS]
  refine WTq 4 ?_; apply Exists.intro; refine ⟨fun w1 hb1 => ?_, ?_⟩; (focus (((obtain ⟨-, k4, -⟩ := K4.out.to (T.out.trans hb1)); have hb1 := zH hb1; go_simp); (try (go_bits; try go_simp)); (try (rw [if_pos (by omega)]; try go_simp)); (first | done | (with_reducible rfl) | exact rfl)))
  simp only [Act.put, zzT, zzO, zzS]
  refine WTq 6 ?_; apply Exists.intro; refine ⟨fun w1 hb1 => ?_, ?_⟩; (focus (((obtain ⟨-, k4, -⟩ := K4.out.to (T.out.trans hb1)); have hb1 := zH hb1; go_simp); (try (go_bits; try go_simp)); (try (rw [if_pos (by omega)]; try go_simp)); (first | done | (with_reducible rfl) | exact rfl)))
  simp only [Act.put, zzT, zzO, zzS]
  refine WTq 7 ?_; apply Exists.intro; refine ⟨fun w1 hb1 => ?_, ?_⟩; (focus (((obtain ⟨-, k4, -⟩ := K4.out.to (T.out.trans hb1)); have hb1 := zH hb1; go_simp); (try (go_bits; try go_simp)); (try (rw [if_pos (by omega)]; try go_simp)); (first | done | (with_reducible rfl) | exact rfl)))
  simp only [Act.put, zzT, zzO, zzS]
  refine WT_one 1 rfl (by kernel_rfl) ?_
  unfold stepT
  go_wp2_with fail
  refine (HCPY.out _ (bThen HB.out T.out)).mono ?_
  rintro e g4 ⟨a1, c1, rfl, -, hr1, hb, -⟩
  have HR1 := zH hr1
  clear hr1
  unfold plC
  rw [HM.out] at HR1 ⊢
  have hbd := zH (hb.mono T.out.size)
  replace T := zH (bThen T.out hb)
  clear hb
  go_wp2_with fail
  refine ⟨hbd.out, ?_⟩
  clear hbd
  refine WT_one 5 rfl (by kernel_rfl) ?_
  unfold stepT
  go_wp2_with fail
  refine (HCR.out _ (bThen HB.out T.out)).mono ?_
  rintro e g5 ⟨a2, c2, rfl, -, hr2, hb, -⟩
  have HR2 := zH hr2
  clear hr2
  replace HR1 := zH (HR1.out.to hb)
  have hbd := zH (hb.mono T.out.size)
  replace T := zH (bThen T.out hb)
  clear hb
  go_wp2_with fail
  refine ⟨hbd.out, ?_⟩
  clear hbd
  refine WT_one 8 rfl (by kernel_rfl) ?_
  unfold stepT
  go_wp2_with fail
  refine (HSF.out _ _ _ _ _ HR1.out HR2.out).mono ?_
  rintro e g6 ⟨rfl, hb⟩
  clear HR1 HR2
  have hbd := zH (hb.mono T.out.size)
  replace T := zH (bThen T.out hb)
  clear hb
  go_wp2_with fail
  refine ⟨hbd.out, ?_⟩
  clear hbd
  refine WTq 9 ?_; apply Exists.intro; refine ⟨fun w1 hb1 => ?_, ?_⟩; (focus ((have hb1 := zH hb1; go_simp); (try (go_bits; try go_simp)); (try (rw [if_pos (by omega)]; try go_simp)); (first | done | (with_reducible rfl) | exact rfl)))
  simp only [Act.put, zzT, zzO, zzS]
  refine WTq 10 ?_; apply Exists.intro; refine ⟨fun w1 hb1 => ?_, ?_⟩; (focus ((have hb1 := zH hb1; go_simp); (try (go_bits; try go_simp)); (try (rw [if_pos (by omega)]; try go_simp)); (first | done | (with_reducible rfl) | exact rfl)))
  simp only [Act.put, zzT, zzO, zzS]
  refine WTq 11 ?_; apply Exists.intro; refine ⟨fun w1 hb1 => ?_, ?_⟩; (focus ((have hb1 := zH hb1; go_simp); (try (go_bits; try go_simp)); (try (rw [if_pos (by omega)]; try go_simp)); (first | done | (with_reducible rfl) | exact rfl)))
  simp only [Act.put, zzT, zzO, zzS]
  refine WTq 12 ?_; apply Exists.intro; refine ⟨fun w1 hb1 => ?_, ?_⟩; (focus ((have hb1 := zH hb1; go_simp); (try (go_bits; try go_simp)); (try (rw [if_pos (by omega)]; try go_simp)); (first | done | (with_reducible rfl) | exact rfl)))
  simp only [Act.put, zzT, zzO, zzS]
  refine WTq 13 ?_; apply Exists.intro; refine ⟨fun w1 hb1 => ?_, ?_⟩; (focus ((have hb1 := zH hb1; go_simp); (try (go_bits; try go_simp)); (try (rw [if_pos (by omega)]; try go_simp)); (first | done | (with_reducible rfl) | exact rfl)))
  simp only [Act.put, zzT, zzO, zzS]
  refine WT_done (by kernel_rfl) ?_
  replace HB := zH (bThen HB.out T.out)
  replace K3 := zH (K3.out.to T.out)
  replace K4 := zH (K4.out.to T.out)
  replace K17 := zH (K17.out.to T.out)
  clear T
  clear HSF
  obtain ⟨z15, hz15⟩ : ∃ z, z = g6 := ⟨_, rfl⟩
  subst hz15
  go_upto_if 215 with (fail)
  go_cut [20, 21, 22, 23] from 216 to 249 (fun _ _ _ _ wc => Hid (Below z15.heap.size z15 wc))
  case first =>
    by_cases hs : sE = 0
    case neg =>
      have hs' : (sE == 0) = false := by simpa using hs
      go_wp2_with fail
      go_meet
      case rel => exact zH (Below.refl _ _)
    obtain ⟨e1, e2, e3, e4⟩ := HSO.out hs
    subst hs
    have HZ : Hid (Below z15.heap.size z15 z15) := zH (Below.refl _ _)
    have HS2 := zH (fun W a2 c2 h => HSQ.out W a2 c2 e1 e2 h)
    have HP2 := zH (fun W a1 c1 a2 c2 h1 h2 => HPO.out W a1 c1 a2 c2 e2 e3 e4 h1 h2)
    clear e1 e2 e3 e4 HSQ HPO HSO
    obtain ⟨-, k4, -⟩ := K4.out
    go_wp2_with fail
    clear k4
    refine (HCR.out _ HB.out).mono ?_
    rintro e t1 ⟨a2, c2, rfl, -, hr2, hb, -⟩
    replace K3 := zH (K3.out.to hb)
    replace K4 := zH (K4.out.to hb)
    replace HB := zH (bThen HB.out hb)
    replace K17 := zH (K17.out.to hb)
    replace HZ := zH (bThen HZ.out hb)
    clear hb
    go_wp2_with fail
    refine (HS2.out _ _ _ hr2).mono ?_
    rintro e t2 ⟨aS, cS, rfl, -, hrS, hb⟩
    replace K3 := zH (K3.out.to hb)
    replace K4 := zH (K4.out.to hb)
    replace HB := zH (bThen HB.out hb)
    replace K17 := zH (K17.out.to hb)
    replace HZ := zH (bThen HZ.out hb)
    have HRS := zH hrS
    clear hb hr2 hrS HS2
    obtain ⟨-, k4, -⟩ := K4.out
    go_wp2_with fail
    clear k4
    refine wp_region_tree (by kernel_rfl) (fun wd hwd => ?_)
    have T := zH hwd
    clear hwd
    refine WTq 0 ?_; apply Exists.intro; refine ⟨fun w1 hb1 => ?_, ?_⟩; (focus (((obtain ⟨-, k3, -⟩ := K3.out.to (T.out.trans hb1)); have hb1 := zH hb1; go_simp); (try (go_bits; try go_simp)); (try (rw [if_pos (by omega)]; try go_simp)); (first | done | (with_reducible rfl) | exact rfl)))
    simp only [Act.put, zzT, zzO, zzS]
    refine WTq 2 ?_; apply Exists.intro; refine ⟨fun w1 hb1 => ?_, ?_⟩; (focus (((obtain ⟨-, k17, -⟩ := K17.out.to (T.out.trans hb1)); have hb1 := zH hb1; go_simp); (try (go_bits; try go_simp)); (try (rw [if_pos (by omega)]; try go_simp)); (first | done | (with_reducible rfl) | exact rfl)))
    simp only [Act.put, zzT, zzO, zzS]
    refine WTq 3 ?_; apply Exists.intro; refine ⟨fun w1 hb1 => ?_, ?_⟩; (focus ((have hb1 := zH hb1; go_simp); (try (go_bits; try go_simp)); (try (rw [if_pos (by omega)]; try go_simp)); (first | done | (with_reducible rfl) | exact rfl)))
    simp only [Act.put, zzT, zzO, zzS]
    refine WTq 4 ?_; apply Exists.intro; refine ⟨fun w1 hb1 => ?_, ?_⟩; (focus (((obtain ⟨-, k4, -⟩ := K4.out.to (T.out.trans hb1)); have hb1 := zH hb1; go_simp); (try (go_bits; try go_simp)); (try (rw [if_pos (by omega)]; try go_simp)); (first | done | (with_reducible rfl) | exact rfl)))
    simp only [Act.put, zzT, zzO, zzS]
    refine WTq 5 ?_; apply Exists.intro; refine ⟨fun w1 hb1 => ?_, ?_⟩; (focus (((obtain ⟨-, k4, -⟩ := K4.out.to (T.out.trans hb1)); have hb1 := zH hb1; go_simp); (try (go_bits; try go_simp)); (try (rw [if_pos (by omega)]; try go_simp)); (first | done | (with_reducible rfl) | exact rfl)))
    simp only [Act.put, zzT, zzO, zzS]
    refine WT_one 1 rfl (by kernel_rfl) ?_
    unfold stepT
    go_wp2_with fail
    refine (HCPY.out _ (bThen HB.out T.out)).mono ?_
    rintro e g7 ⟨a1, c1, rfl, -, hr1, hb, -⟩
    have HR1 := zH hr1
    clear hr1
    unfold plC
    rw [HM.out] at HR1 ⊢
    have hbd := zH (hb.mono T.out.size)
    replace T := zH (bThen T.out hb)
    clear hb
    go_wp2_with fail
    refine ⟨hbd.out, ?_⟩
    clear hbd
    refine WT_one 6 rfl (by kernel_rfl) ?_
    unfold stepT
    go_wp2_with fail
    refine (HP2.out _ _ _ _ _ HR1.out (HRS.out.to T.out)).mono ?_
    rintro e g8 ⟨rfl, hb⟩
    clear HR1
    have hbd := zH (hb.mono T.out.size)
    replace T := zH (bThen T.out hb)
    clear hb
    go_wp2_with fail
    refine ⟨hbd.out, ?_⟩
    clear hbd
    refine WTq 7 ?_; apply Exists.intro; refine ⟨fun w1 hb1 => ?_, ?_⟩; (focus ((have hb1 := zH hb1; go_simp); (try (go_bits; try go_simp)); (try (rw [if_pos (by omega)]; try go_simp)); (first | done | (with_reducible rfl) | exact rfl)))
    simp only [Act.put, zzT, zzO, zzS]
    refine WTq 8 ?_; apply Exists.intro; refine ⟨fun w1 hb1 => ?_, ?_⟩; (focus ((have hb1 := zH hb1; go_simp); (try (go_bits; try go_simp)); (try (rw [if_pos (by omega)]; try go_simp)); (first | done | (with_reducible rfl) | exact rfl)))
    simp only [Act.put, zzT, zzO, zzS]
    refine WTq 9 ?_; apply Exists.intro; refine ⟨fun w1 hb1 => ?_, ?_⟩; (focus ((have hb1 := zH hb1; go_simp); (try (go_bits; try go_simp)); (try (rw [if_pos (by omega)]; try go_simp)); (first | done | (with_reducible rfl) | exact rfl)))
    simp only [Act.put, zzT, zzO, zzS]
    refine WTq 10 ?_; apply Exists.intro; refine ⟨fun w1 hb1 => ?_, ?_⟩; (focus ((have hb1 := zH hb1; go_simp); (try (go_bits; try go_simp)); (try (rw [if_pos (by omega)]; try go_simp)); (first | done | (with_reducible rfl) | exact rfl)))
    simp only [Act.put, zzT, zzO, zzS]
    refine WTq 11 ?_; apply Exists.intro; refine ⟨fun w1 hb1 => ?_, ?_⟩; (focus ((have hb1 := zH hb1; go_simp); (try (go_bits; try go_simp)); (try (rw [if_pos (by omega)]; try go_simp)); (first | done | (with_reducible rfl) | exact rfl)))
    simp only [Act.put, zzT, zzO, zzS]
    refine WT_done (by kernel_rfl) ?_
    replace HB := zH (bThen HB.out T.out)
    replace HZ := zH (bThen HZ.out T.out)
    replace K3 := zH (K3.out.to T.out)
    replace K4 := zH (K4.out.to T.out)
    replace K17 := zH (K17.out.to T.out)
    clear T
    clear HP2
    go_wp2_with fail
    go_meet
    case rel => exact HZ
  obtain ⟨z16, hwo⟩ : ∃ wo, wo = wc := ⟨_, rfl⟩
  subst hwo
  replace hcut := hcut.out
  replace K3 := zH (K3.out.to hcut)
  replace K4 := zH (K4.out.to hcut)
  replace HB := zH (bThen HB.out hcut)
  clear hcut HSO HPO HSQ K17
  go_wp2_with fail
  go_loopw [24, 25, 26, 27, 28] (fun s24 _ _ _ _ wr => ∃ k : Nat, s24 = .int .i64 k ∧ 1 ≤ k ∧ k ≤ kN + 1 ∧ Hid (Below z16.heap.size z16 wr)) (fun s24 _ _ _ _ _ => kN + 1 - (intOf s24).toNat)
  case atStart => exact ⟨1, rfl, Nat.le_refl _, by omega, zH (bSelf z16)⟩
  case round =>
    obtain ⟨k, rfl, hk1, hk, HR0⟩ := hrel
    cases kb with
    | false =>
      go_wp2_with fail
      go_ret
      exact ⟨rfl, bThen HB.out HR0.out⟩
    | true =>
      by_cases hkn : k ≤ kN
      · have hkn' : (k : Int) ≤ (kN : Int) := by omega
        obtain ⟨e1, e2, e3, e4, e5⟩ := HLO.out kN k (HKB.out rfl) hk1 hkn
        have HBK1 := zH (fun W a1 c1 h1 => HBK.out W k a1 c1 e1 e2 h1)
        have HPK1 := zH (fun W a1 c1 h1 => HPK.out W k a1 c1 e3 h1)
        have HYK1 := zH (fun W a1 c1 h1 => HYK.out W k a1 c1 h1)
        have HCK1 := zH (fun W a1 c1 h1 => HCK.out W k a1 c1 h1)
        have HPL1 := zH (fun W a1 c1 a2 c2 h1 h2 => HPL.out W k kN a1 c1 a2 c2 e4 e5 h1 h2)
        obtain ⟨Ck, hCk⟩ : ∃ b, capV (btlQ k p.pts) = b := ⟨_, rfl⟩
        rw [hCk] at HCK1 HPL1
        obtain ⟨kd, hkd⟩ : ∃ b, decide (k = kN) = b := ⟨_, rfl⟩
        have HKD := zH hkd
        rw [hkd] at HPL1
        clear e1 e2 e3 e4 e5 hCk hkd HBK HPK HYK HCK HPL HLO HKB
        have HBW := zH (bThen HB.out HR0.out)
        obtain ⟨-, k3, -⟩ := K3.out.to HR0.out
        go_wp2_with fail
        clear k3
        refine (HCPY.out _ HBW.out).mono ?_
        rintro e t1 ⟨a1, c1, rfl, -, hr1, hb, -⟩
        replace HR0 := zH (bThen HR0.out hb)
        have HR1 := zH hr1
        clear hr1 hb HBW
        unfold plC
        rw [HM.out] at HR1 ⊢
        go_wp2_with fail
        refine (HBK1.out _ _ _ HR1.out).mono ?_
        rintro e t2 ⟨aR, cR, rfl, hrR, hb⟩
        replace HR0 := zH (bThen HR0.out hb)
        have HRR := zH hrR
        clear hb hrR HR1 HBK1
        go_wp2_with fail
        obtain ⟨t3, ht3⟩ : ∃ u, t2.alloc (.cells #[.slice aR m cR, .int .i64 p.pump, .int .i64 p.on, .int .i64 p.off] 44) = u := ⟨_, rfl⟩
        rw [ht3]
        have hb : Below t2.heap.size t2 t3 := by subst ht3; exact bAlloc (bSelf _) _
        have K25 : Hid (Blk t3 t2.heap.size #[.slice aR m cR, .int .i64 p.pump, .int .i64 p.on, .int .i64 p.off]) := by subst ht3; exact zH (Blk.new _ _ _)
        replace HR0 := zH (bThen HR0.out hb)
        replace HRR := zH (HRR.out.to hb)
        clear hb ht3
        refine (HPK1.out _ _ _ HRR.out).mono ?_
        rintro e t4 ⟨rfl, hb⟩
        replace HR0 := zH (bThen HR0.out hb)
        replace HRR := zH (HRR.out.to hb)
        replace K25 := zH (K25.out.to hb)
        clear hb HPK1
        have K3w := zH (K3.out.to HR0.out)
        have K4w := zH (K4.out.to HR0.out)
        have HBW := zH (bThen HB.out HR0.out)
        go_wp2_with fail
        refine wp_region_tree (by kernel_rfl) (fun wd hwd => ?_)
        have T := zH hwd
        clear hwd
        refine WTq 0 ?_; apply Exists.intro; refine ⟨fun w1 hb1 => ?_, ?_⟩; (focus (((obtain ⟨-, kq, -⟩ := K25.out.to (T.out.trans hb1)); have hb1 := zH hb1; go_simp); (try (go_bits; try go_simp)); (try (rw [if_pos (by omega)]; try go_simp)); (first | done | (with_reducible rfl) | exact rfl)))
        simp only [Act.put, zzT, zzO, zzS]
        refine WTq 2 ?_; apply Exists.intro; refine ⟨fun w1 hb1 => ?_, ?_⟩; (focus (((obtain ⟨-, kq, -⟩ := K25.out.to (T.out.trans hb1)); have hb1 := zH hb1; go_simp); (try (go_bits; try go_simp)); (try (rw [if_pos (by omega)]; try go_simp)); (first | done | (with_reducible rfl) | exact rfl)))
        simp only [Act.put, zzT, zzO, zzS]
        refine WTq 5 ?_; apply Exists.intro; refine ⟨fun w1 hb1 => ?_, ?_⟩; (focus (((obtain ⟨-, kq, -⟩ := K4w.out.to (T.out.trans hb1)); have hb1 := zH hb1; go_simp); (try (go_bits; try go_simp)); (try (rw [if_pos (by omega)]; try go_simp)); (first | done | (with_reducible rfl) | exact rfl)))
        simp only [Act.put, zzT, zzO, zzS]
        refine WTq 6 ?_; apply Exists.intro; refine ⟨fun w1 hb1 => ?_, ?_⟩; (focus (((obtain ⟨-, kq, -⟩ := K4w.out.to (T.out.trans hb1)); have hb1 := zH hb1; go_simp); (try (go_bits; try go_simp)); (try (rw [if_pos (by omega)]; try go_simp)); (first | done | (with_reducible rfl) | exact rfl)))
        simp only [Act.put, zzT, zzO, zzS]
        refine WTq 8 ?_; apply Exists.intro; refine ⟨fun w1 hb1 => ?_, ?_⟩; (focus (((obtain ⟨-, kq, -⟩ := K4w.out.to (T.out.trans hb1)); have hb1 := zH hb1; go_simp); (try (go_bits; try go_simp)); (try (rw [if_pos (by omega)]; try go_simp)); (first | done | (with_reducible rfl) | exact rfl)))
        simp only [Act.put, zzT, zzO, zzS]
        refine WTq 9 ?_; apply Exists.intro; refine ⟨fun w1 hb1 => ?_, ?_⟩; (focus (((obtain ⟨-, kq, -⟩ := K4w.out.to (T.out.trans hb1)); have hb1 := zH hb1; go_simp); (try (go_bits; try go_simp)); (try (rw [if_pos (by omega)]; try go_simp)); (first | done | (with_reducible rfl) | exact rfl)))
        simp only [Act.put, zzT, zzO, zzS]
        refine WT_one 1 rfl (by kernel_rfl) ?_
        unfold stepT
        go_wp2_with fail
        refine (HYK1.out _ _ _ (HRR.out.to T.out)).mono ?_
        rintro e v1 ⟨a3, c3, rfl, hr3, hb⟩
        have HR3 := zH hr3
        clear hr3
        have hbd := zH (hb.mono T.out.size)
        replace T := zH (bThen T.out hb)
        clear hb
        go_wp2_with fail
        refine ⟨hbd.out, ?_⟩
        clear hbd
        refine WT_one 3 rfl (by kernel_rfl) ?_
        unfold stepT
        go_wp2_with fail
        refine (HCK1.out _ _ _ (HRR.out.to T.out)).mono ?_
        rintro e v2 ⟨rfl, hb⟩
        replace HR3 := zH (HR3.out.to hb)
        have hbd := zH (hb.mono T.out.size)
        replace T := zH (bThen T.out hb)
        clear hb
        go_wp2_with fail
        refine ⟨hbd.out, ?_⟩
        clear hbd
        refine WT_yes 4 rfl (by kernel_rfl) (fun _ _ _ _ _ h => h) (by rfl) ⟨.agg #[.int .i64 Ck, .bool false], fun w1 hb1 => (by go_simp), ?_⟩
        simp only [Act.put, zzT, zzO, zzS]
        refine WT_one 7 rfl (by kernel_rfl) ?_
        unfold stepT
        go_wp2_with fail
        refine (HCR.out _ (bThen HBW.out T.out)).mono ?_
        rintro e v3 ⟨a4, c4, rfl, -, hr4, hb, -⟩
        have HR4 := zH hr4
        clear hr4
        replace HR3 := zH (HR3.out.to hb)
        have hbd := zH (hb.mono T.out.size)
        replace T := zH (bThen T.out hb)
        clear hb
        go_wp2_with fail
        refine ⟨hbd.out, ?_⟩
        clear hbd
        refine WT_one 10 rfl (by kernel_rfl) ?_
        unfold stepT
        go_wp2_with fail
        refine (HPL1.out _ _ _ _ _ HR3.out HR4.out).mono ?_
        rintro e v4 ⟨rfl, hb⟩
        clear HR3 HR4
        have hbd := zH (hb.mono T.out.size)
        replace T := zH (bThen T.out hb)
        clear hb
        go_wp2_with fail
        refine ⟨hbd.out, ?_⟩
        clear hbd
        refine WTq 11 ?_; apply Exists.intro; refine ⟨fun w1 hb1 => ?_, ?_⟩; (focus ((have hb1 := zH hb1; go_simp); (try (go_bits; try go_simp)); (try (rw [if_pos (by omega)]; try go_simp)); (first | done | (with_reducible rfl) | exact rfl)))
        simp only [Act.put, zzT, zzO, zzS]
        refine WTq 12 ?_; apply Exists.intro; refine ⟨fun w1 hb1 => ?_, ?_⟩; (focus ((have hb1 := zH hb1; go_simp); (try (go_bits; try go_simp)); (try (rw [if_pos (by omega)]; try go_simp)); (first | done | (with_reducible rfl) | exact rfl)))
        simp only [Act.put, zzT, zzO, zzS]
        refine WTq 13 ?_; apply Exists.intro; refine ⟨fun w1 hb1 => ?_, ?_⟩; (focus ((have hb1 := zH hb1; go_simp); (try (go_bits; try go_simp)); (try (rw [if_pos (by omega)]; try go_simp)); (first | done | (with_reducible rfl) | exact rfl)))
        simp only [Act.put, zzT, zzO, zzS]
        refine WTq 14 ?_; apply Exists.intro; refine ⟨fun w1 hb1 => ?_, ?_⟩; (focus ((have hb1 := zH hb1; go_simp); (try (go_bits; try go_simp)); (try (rw [if_pos (by omega)]; try go_simp)); (first | done | (with_reducible rfl) | exact rfl)))
        simp only [Act.put, zzT, zzO, zzS]
        refine WTq 15 ?_; apply Exists.intro; refine ⟨fun w1 hb1 => ?_, ?_⟩; (focus ((have hb1 := zH hb1; go_simp); (try (go_bits; try go_simp)); (try (rw [if_pos (by omega)]; try go_simp)); (first | done | (with_reducible rfl) | exact rfl)))
        simp only [Act.put, zzT, zzO, zzS]
        refine WT_done (by kernel_rfl) ?_
        replace HR0 := zH (bThen HR0.out T.out)
        clear T K25 K3w K4w HBW HRR HYK1 HCK1 HPL1
        cases kd with
        | true =>
          have hkk : k = kN := by simpa using HKD.out
          subst hkk
          go_wp2_with fail
          go_roundw
          case rel => exact ⟨k + 1, by go_num, by omega, by omega, HR0⟩
          case measure => simp [intOf] <;> omega
        | false =>
          have hne : ¬ k = kN := by simpa using HKD.out
          have hne1 : ((k : Int) == (kN : Int)) = false := by rw [beq_eq_false_iff_ne]; omega
          have hne2 : ¬ (k : Int) = (kN : Int) := by omega
          go_wp2_with fail
          go_roundw
          case rel => exact ⟨k + 1, by go_num, by omega, by omega, HR0⟩
          case measure => simp [intOf] <;> omega
      · obtain rfl : k = kN + 1 := by omega
        have hkn' : ¬ ((kN + 1 : Nat) : Int) ≤ (kN : Int) := by omega
        go_wp2_with fail
        go_ret
        exact ⟨rfl, bThen HB.out HR0.out⟩
end
end Go.Proofs.YtjfedpblkejmkaaGreat
