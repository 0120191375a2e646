/-
  Texts of this claim, in their build order: OM15 OM24 OR5 OR6.
-/
import Derived.Test.YtjfedpblkejmkaaGreatVal24
import Derived.Test.YtjfedpblkejmkaaGreatVal43
import Derived.Test.YtjfedpblkejmkaaGreatVal23
import Derived.Test.YtjfedpblkejmkaaGreatVal7
import Derived.Test.YtjfedpblkejmkaaGreatVal38
import Derived.Test.YtjfedpblkejmkaaGreatVal5
import Derived.Test.YtjfedpblkejmkaaGreatVal3
import Derived.Test.YtjfedpblkejmkaaGreatVal1

/-
  VolumeFor.
-/
namespace Go.Proofs.YtjfedpblkejmkaaGreat
open Go.RowKit
theorem drpQ_step {l : List (Int × Int)} {f : Int} {k n : Nat} (h : k < n) (hl : lessQ (prQ l k) (f, 1) = true) : drpQ l f k (n - k) = drpQ l f (k + 1) (n - (k + 1)) := by
  obtain ⟨m, hm⟩ : ∃ m, n - k = m + 1 := ⟨n - k - 1, by omega⟩
  rw [hm, show n - (k + 1) = m by omega]
  show (if lessQ (prQ l k) (f, 1) = false then some k else drpQ l f (k + 1) m) = _
  rw [if_neg (by rw [hl]; simp)]
theorem drpQ_stop {l : List (Int × Int)} {f : Int} {k n : Nat} (h : k < n) (hl : lessQ (prQ l k) (f, 1) = false) : drpQ l f k (n - k) = some k := by
  obtain ⟨m, hm⟩ : ∃ m, n - k = m + 1 := ⟨n - k - 1, by omega⟩
  rw [hm]
  show (if lessQ (prQ l k) (f, 1) = false then some k else drpQ l f (k + 1) m) = _
  rw [if_pos hl]

end Go.Proofs.YtjfedpblkejmkaaGreat

/-
  DropFor.
-/
namespace Go.Proofs.YtjfedpblkejmkaaGreat
open Go.RowKit
attribute [local go_sem] Oper.semAt_some

def drfE (l : List (Int × Int × Int)) (fl : Int) : Int := firstE [(chVl l).2, unl (wthn fl 0 50) 2]
def drfD (l : List (Int × Int × Int)) (fl : Int) : Option Nat := drpQ (lowV l) fl 0 (capV (lowV l) + 1).toNat
/-- DropFor's answer and error. -/
def drfR (l : List (Int × Int × Int)) (fl : Int) : Int × Int := if drfE l fl = 0 then (match drfD l fl with | some d => ((d : Int), 0) | none => (0, 12)) else (0, drfE l fl)

set_option maxHeartbeats 3200000 in
set_option maxRecDepth 100000 in
theorem DropFor_any (l : List (Int × Int × Int)) (fl : Int) (al : Option Addr) (cap : Nat) (w : World) (hlen : l.length ≤ 1000) (hr : Reads w al (l.length * 3) (flws l)) :
    Calls Tryz.prog 47 #[.slice al l.length cap, .int .i64 fl] w fun e w' => e = .returned (.tuple #[.int .i64 (drfR l fl).1, .int .i64 (drfR l fl).2]) ∧ Below w.heap.size w w' := by
  have HO := Lib.hid (openValve_any l al cap w hlen hr)
  have HE : Hid (firstE [(chVl l).2, unl (wthn fl 0 50) 2] = drfE l fl) := Lib.hid rfl
  have HR : Hid (drfR l fl = if drfE l fl = 0 then (match drfD l fl with | some d => ((d : Int), 0) | none => (0, 12)) else (0, drfE l fl)) := Lib.hid rfl
  have HOK := Lib.hid (fun (h : drfE l fl = 0) => (show VlvOk l ∧ capV (lowV l) = lstV l l.length ∧ 0 ≤ fl ∧ fl ≤ 50 from by
    obtain ⟨h1, h2⟩ := firstE2.1 (show firstE [(chVl l).2, unl (wthn fl 0 50) 2] = 0 from h)
    rw [unlZ (by decide), wthn_iff] at h2
    obtain ⟨g1, g2, g3⟩ := chVl_ok h1
    exact ⟨g1, (lst_cap (l := l) (by omega)).1, h2⟩))
  unfold OpvPost at HO
  obtain ⟨ve, hve⟩ : ∃ e, drfE l fl = e := ⟨_, rfl⟩
  obtain ⟨⟨r1, r2⟩, hrr⟩ : ∃ e, drfR l fl = e := ⟨_, rfl⟩
  obtain ⟨ce, hce⟩ : ∃ e, (chVl l).2 = e := ⟨_, rfl⟩
  obtain ⟨n, hn⟩ : ∃ n, l.length = n := ⟨_, rfl⟩
  have HLN : Hid ((lowV l).length = n) := Lib.hid (by rw [low_len, hn])
  obtain ⟨ls, hls⟩ : ∃ e, lstV l l.length = e := ⟨_, rfl⟩
  rw [hve] at HE HR HOK
  rw [hrr] at HR ⊢
  rw [hce] at HE HO
  rw [hls] at HO HOK
  rw [hn] at HO hlen ⊢
  clear hve hrr hce hn hls hr
  dsimp only at *
  by_cases h0 : ve = 0
  · subst h0
    rw [if_pos rfl] at HR
    obtain ⟨hv, hcl, hf0, hf1⟩ := HOK.out rfl
    have hlo : LinOk (lowV l) := hv.lo
    have HON := Lib.hid (fun W a1 c1 (x : Int) (hx : 0 ≤ x ∧ x ≤ capV (lowV l)) h => on_any (lowV l) x a1 c1 W (.of_lin hlo hx.1 hx.2) h)
    have HBL := Lib.hid (fun W x (hx : 0 ≤ x ∧ x ≤ capV (lowV l)) => (show Calls Tryz.prog 100 _ W _ from oBelow_any (prQ (lowV l) x) fl W (by have := QOk.of_lin hlo hx.1 hx.2; exact ⟨by have := this.n0; omega, by have := this.n1; omega⟩) (by have := QOk.of_lin hlo hx.1 hx.2; exact ⟨by have := this.d0; omega, by have := this.d1; omega⟩) ⟨by omega, by omega⟩))
    have hc : 0 ≤ ls ∧ ls ≤ 1000 := by
      rw [← hcl]
      have := hlo.vol ((lowV l).length - 1) (by have := hlo.two; omega)
      exact this
    have HD : Hid (drfD l fl = drpQ (lowV l) fl 0 (capV (lowV l) + 1).toNat) := Lib.hid rfl
    obtain ⟨dr, hdr⟩ : ∃ d, drfD l fl = d := ⟨_, rfl⟩
    rw [hdr] at HD HR
    rw [hcl] at HON HBL HD
    rw [HLN.out] at HON
    obtain ⟨N, hN⟩ : ∃ N : Nat, (ls + 1).toNat = N := ⟨_, rfl⟩
    have hCN : ls + 1 = (N : Int) := by omega
    rw [hN] at HD
    clear hdr hN hv hlo hcl HOK hlen
    go_enter Tryz.func47, Tryz.ntmps47
    go_wp2_with fail
    refine HO.out.mono ?_
    rintro e w2 ⟨a1, c1, a2, c2, rfl, hr1, hr2, hb⟩
    have HB := Lib.hid hb
    have HLO := Lib.hid hr1
    clear hb hr1 hr2 HO
    go_wp2_with (first | (go_at_call 108; refine (isFlow_any _ _).mono ?_; rintro e w' ⟨rfl, rfl⟩) | (go_at_call 94; refine (oUnless_any _ _ _).mono ?_; rintro e w' ⟨rfl, rfl⟩) | (go_at_call 92; refine (oFirst2_new _ _ _ _ (by simp)).mono ?_; rintro e w' ⟨rfl, rfl⟩; rw [HE.out]))
    obtain ⟨W2, hW2⟩ : ∃ W2, w2.alloc (.cells #[.int .i64 ce, .int .i64 (unl (wthn fl 0 50) 2)] 29) = W2 := ⟨_, rfl⟩
    rw [hW2]
    have hb2 : Below w2.heap.size w2 W2 := by subst hW2; exact bAlloc (bSelf _) _
    replace HLO := Lib.hid (HLO.out.to hb2)
    replace HB := Lib.hid (bThen HB.out hb2)
    clear hW2 hb2
    go_loopw [10, 29] (fun _ v26 wr => ∃ k : Nat, v26 = .int .i64 k ∧ k ≤ N ∧ Hid (dr = drpQ (lowV l) fl k (N - k)) ∧ Hid (Below W2.heap.size W2 wr)) (fun _ v26 _ => N - (intOf v26).toNat)
    case atStart => exact ⟨0, rfl, Nat.zero_le _, Lib.hid (by rw [HD.out]; rfl), Lib.hid (bSelf W2)⟩
    case round =>
      obtain ⟨k, rfl, hk, hdk, HBr⟩ := hrel
      obtain ⟨wo, hwo⟩ : ∃ wo, wo = wr := ⟨_, rfl⟩
      subst hwo
      by_cases hlt : k < N
      · have hkC : (0 : Int) ≤ (k : Int) ∧ (k : Int) ≤ ls := by omega
        go_wp2_with fail
        refine (HON.out _ a1 c1 k hkC (HLO.out.to HBr.out)).mono ?_
        rintro e w3 ⟨rfl, hb⟩
        have HB3 : Hid (Below W2.heap.size W2 w3) := Lib.hid (bThen HBr.out hb)
        clear hb HBr
        have HBk := Lib.hid (fun W => HBL.out W k hkC)
        cases hl : lessQ (prQ (lowV l) k) (fl, 1) with
        | true =>
          have HS := Lib.hid (drpQ_step hlt hl)
          rw [hl] at HBk
          clear hl
          go_wp2_with (go_at_call 100; refine (HBk.out _).mono ?_; rintro e w' ⟨rfl, hb⟩; have hb := Lib.hid hb)
          go_roundw
          case rel => exact ⟨k + 1, by go_num, by omega, Lib.hid (hdk.out.trans HS.out), Lib.hid (bThen HB3.out hb.out)⟩
          case measure => simp [intOf]; omega
        | false =>
          have HS := Lib.hid (drpQ_stop hlt hl)
          rw [hl] at HBk
          clear hl
          have hR := HR.out
          rw [hdk.out, HS.out] at hR
          injection hR with hR1 hR2
          subst hR1 hR2
          go_wp2_with (go_at_call 100; refine (HBk.out _).mono ?_; rintro e w' ⟨rfl, hb⟩; have hb := Lib.hid hb)
          refine bodyPost_ret (results_tmp2 rfl _ _ _) rfl ?_
          exact ⟨rfl, bThen HB.out (bThen HB3.out hb.out)⟩
      · obtain rfl : k = N := by omega
        have hR := HR.out
        have hdn : dr = none := by rw [hdk.out, Nat.sub_self]; rfl
        rw [hdn] at hR
        injection hR with hR1 hR2
        subst hR1 hR2
        clear hdn
        go_wp2_with fail
        refine bodyPost_ret (results_tmp2 rfl _ _ _) rfl ?_
        exact ⟨rfl, bThen HB.out HBr.out⟩
  · have h0' : (ve != 0) = true := by simpa using h0
    rw [if_neg h0] at HR
    have hA := HR.out
    injection hA with hA1 hA2
    subst hA1 hA2
    clear h0 HOK hlen HR
    go_enter Tryz.func47, Tryz.ntmps47
    go_wp2_with fail
    refine HO.out.mono ?_
    rintro e w1 ⟨a1, c1, a2, c2, rfl, hr1, hr2, hb⟩
    have HB := Lib.hid hb
    clear hb hr1 hr2 HO
    go_wp2_with (first | (go_at_call 108; refine (isFlow_any _ _).mono ?_; rintro e w' ⟨rfl, rfl⟩) | (go_at_call 94; refine (oUnless_any _ _ _).mono ?_; rintro e w' ⟨rfl, rfl⟩) | (go_at_call 92; refine (oFirst2_new _ _ _ _ (by simp)).mono ?_; rintro e w' ⟨rfl, rfl⟩; rw [HE.out]))
    refine bodyPost_ret (results_tmp2 rfl _ _ _) rfl ?_
    exact ⟨rfl, bAlloc HB.out _⟩

end Go.Proofs.YtjfedpblkejmkaaGreat

/-
  The reference: FlowErr, LimitErr, CopyPlant, Capacity, StateErr.
-/
namespace Go.Proofs.YtjfedpblkejmkaaGreat
open Go.RowKit
attribute [local go_sem] Oper.semAt_some

theorem bWth_any (n lo hi : Int) (w : World) :
    Calls Tryz.prog 42 #[.int .i64 n, .int .i64 lo, .int .i64 hi] w fun e w' => e = .returned (.bool (wthn n lo hi)) ∧ w = w' := bWithin_any n lo hi w
theorem rFlowErr_any (x : Int) (w : World) :
    Calls Tryz.prog 33 #[.int .i64 x] w fun e w' => e = .returned (.int .i64 (unl (wthn x 0 50) 2)) ∧ w = w' := by
  have HW := Lib.hid (fun W => bWth_any x 0 50 W)
  obtain ⟨b, hb⟩ : ∃ b, wthn x 0 50 = b := ⟨_, rfl⟩
  rw [hb] at HW ⊢
  clear hb
  cases b
  all_goals
    go_enter Tryz.func33, Tryz.ntmps33
    go_wp2_with (go_at_call 42; refine (HW.out _).mono ?_; rintro e w' ⟨rfl, rfl⟩)
    go_ret
    exact ⟨rfl, rfl⟩
theorem Reads.st4 {W : World} {a : Option Addr} {n : Nat} {f : Nat → Value} {b : Nat} (h : Reads W a n f) (hb : ∀ q, a = some q → q.block ≠ b) (x0 x1 x2 x3 : Value) : Reads (Go.Proofs.YtjfedpblkejmkaaGreat.st4 W b x0 x1 x2 x3) a n f := by
  have hne : ∀ b' off, a = some ⟨b', off, none⟩ → b' ≠ b := fun b' off e => hb _ e
  exact (((h.other ⟨b, 0, none⟩ x0 hne).other ⟨b, 1, none⟩ x1 hne).other ⟨b, 2, none⟩ x2 hne).other ⟨b, 3, none⟩ x3 hne
end Go.Proofs.YtjfedpblkejmkaaGreat

/-
  The reference: CheckPlant, PlantErr.
-/
namespace Go.Proofs.YtjfedpblkejmkaaGreat
open Go.RowKit
theorem fewE_val (n : Int) : fewE n = if n < 2 then 10 else if 8 < n then 8 else 0 := by
  unfold fewE
  by_cases h1 : n < 2
  · rw [if_pos h1, decide_eq_false (show ¬ 2 ≤ n by omega)]; rfl
  · rw [if_neg h1, decide_eq_true (show 2 ≤ n by omega)]
    by_cases h2 : 8 < n
    · rw [if_pos h2, decide_eq_false (show ¬ n ≤ 8 by omega)]; rfl
    · rw [if_neg h2, decide_eq_true (show n ≤ 8 by omega)]; rfl

end Go.Proofs.YtjfedpblkejmkaaGreat

