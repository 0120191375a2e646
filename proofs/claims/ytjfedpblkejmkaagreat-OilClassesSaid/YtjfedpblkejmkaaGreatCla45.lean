/-
  Texts of this claim, in their build order: OL4 R1 OR3 OW5 OR10 OR11 OR12 OP18.
-/
import Derived.Test.YtjfedpblkejmkaaGreatCla40
import Derived.Test.YtjfedpblkejmkaaGreatCla44
import Derived.Test.YtjfedpblkejmkaaGreatCla24
import Derived.Test.YtjfedpblkejmkaaGreatCla21
import Derived.Test.YtjfedpblkejmkaaGreatCla17
import Derived.Test.YtjfedpblkejmkaaGreatCla23
import Derived.Test.YtjfedpblkejmkaaGreatCla25
import Derived.Test.YtjfedpblkejmkaaGreatCla27
import Derived.Test.YtjfedpblkejmkaaGreatCla20
import Derived.Test.YtjfedpblkejmkaaGreatCla0

namespace Go.Proofs.YtjfedpblkejmkaaGreat
section
open Go.RowKit
attribute [local go_sem] Oper.semAt_some

theorem lFew_any (p : Plt) (a : Option Addr) (cap : Nat) (w : World) :
    Calls Tryz.prog 23 #[.agg (plC p a cap)] w fun e w' => e = .returned (.bool (decide ((p.pts.length : Int) ≤ 10))) ∧ Below w.heap.size w w' := by
  obtain ⟨l, pump, on, off⟩ := p
  unfold plC
  dsimp only
  obtain ⟨n, hn⟩ : ∃ n, l.length = n := ⟨_, rfl⟩
  rw [hn]
  clear hn
  go_enter Tryz.func23, Tryz.ntmps23
  go_wp2_with fail
  go_ret
  exact ⟨rfl, bAlloc (bSelf w) _⟩
end
section
open Go.RowKit

set_option maxHeartbeats 400000 in
theorem IsSmall_yes (p : Int × Int) (w : World) (hp : SmF p) :
    Calls Tryz.prog 138 #[.agg #[.int .i64 p.1, .int .i64 p.2]] w fun e w' => e = .returned (.bool true) ∧ Below w.heap.size w w' := by
  obtain ⟨n, d⟩ := p
  obtain ⟨n0, n1, d0, d1⟩ := hp
  dsimp only at n0 n1 d0 d1 ⊢
  have e1 : (decide (-1000000000 ≤ n) && decide (n ≤ 1000000000)) = true := by rw [decide_eq_true n0, decide_eq_true n1]; rfl
  have e2 : (decide (1 ≤ d) && decide (d ≤ 1000000000)) = true := by rw [decide_eq_true d0, decide_eq_true d1]; rfl
  have E1 := zH e1
  have E2 := zH e2
  clear e1 e2
  go_enter Tryz.func138, Tryz.ntmps138
  go_wp2_with fail
  refine (bWithin_any _ _ _ _).mono ?_
  rintro e w' ⟨rfl, rfl⟩
  rw [E1.out]
  go_wp2_with fail
  refine (bWithin_any _ _ _ _).mono ?_
  rintro e w' ⟨rfl, rfl⟩
  rw [E2.out]
  go_wp2_with fail
  go_ret
  exact ⟨rfl, bAlloc (bSelf w) _⟩
end
section
open Go.RowKit
attribute [local go_sem] Oper.semAt_some

theorem Dig.drop {l : List Int} (h : Dig l) (n : Nat) : Dig (l.drop n) := fun d hd => h d (List.mem_of_mem_drop hd)
theorem val_dropS {l : List Int} {k : Nat} (hk : k < l.length) : val (l.drop k) = gi l k + 1000000000 * val (l.drop (k + 1)) := by
  rw [gi_drop l k hk]; rfl
theorem val_drop_le {l : List Int} (hd : Dig l) : ∀ k, 0 ≤ val (l.drop k) ∧ val (l.drop k) ≤ val l
  | 0 => ⟨val_nonneg hd, Int.le_refl _⟩
  | k + 1 => by
    obtain ⟨h1, h2⟩ := val_drop_le hd k
    refine ⟨val_nonneg (hd.drop _), ?_⟩
    by_cases hk : k < l.length
    · have := val_dropS hk
      have h3 := (hd.at k).1
      have h4 := val_nonneg (hd.drop (k + 1))
      omega
    · rw [List.drop_of_length_le (by omega)]
      exact val_nonneg hd
theorem sign_val (z : Int) : z.sign * val (dg z) = z := by rw [val_dg]; exact Int.sign_mul_natAbs z

set_option maxHeartbeats 1600000 in
set_option maxRecDepth 100000 in
theorem WideInt_any (z : Int) (a : Option Addr) (v : Value) (w : World) (h1 : -1000000000000000000 < z) (h2 : z < 1000000000000000000) (hw : RW w a v z) :
    Calls Tryz.prog 118 #[v] w fun e w' => e = .returned (.tuple #[.int .i64 z, .bool true]) ∧ Below w.heap.size w w' := by
  obtain ⟨cap, rfl, hcap, hr⟩ := hw
  have hlen : (dg z).length ≤ 2 := digs_len 2 z.natAbs (Nat.lt_of_lt_of_eq (show z.natAbs < 1000000000000000000 by omega) (by decide))
  have HD := zH (dg_dig z)
  have HZ := zH (sign_val z)
  have hV : val (dg z) < 1000000000000000000 := by rw [val_dg]; omega
  have hs := sign_bd z
  obtain ⟨sg, hsg⟩ : ∃ s, z.sign = s := ⟨_, rfl⟩
  obtain ⟨l, hl⟩ : ∃ l, dg z = l := ⟨_, rfl⟩
  rw [hl] at hlen HD HZ hV hr hcap ⊢
  rw [hsg] at HZ hs ⊢
  have HR := zH hr
  have HDR := zH (fun k => val_drop_le HD.out k)
  obtain ⟨n, hn⟩ : ∃ n, l.length = n := ⟨_, rfl⟩
  have HN := zH hn
  rw [hn] at hlen HR hcap ⊢
  obtain ⟨V, hVV⟩ : ∃ V, val l = V := ⟨_, rfl⟩
  rw [hVV] at hV HZ HDR
  have HVV := zH hVV
  clear hr hl hsg hn hVV h1 h2
  go_enter Tryz.func118, Tryz.ntmps118
  go_wp2_with fail
  obtain ⟨W, hW⟩ : ∃ W, w.alloc (.cells #[.int .i64 sg, .slice a n cap] 110) = W := ⟨_, rfl⟩
  rw [hW]
  have K1 : Hid (Blk W w.heap.size #[.int .i64 sg, .slice a n cap]) := by subst hW; exact zH (Blk.new _ _ _)
  have HB : Hid (Below w.heap.size w W) := by subst hW; exact zH (bAlloc (bSelf w) _)
  replace HR : Hid (Reads W a n (ints l)) := by subst hW; exact zH (HR.out.alloc _)
  clear hW
  obtain ⟨-, k1, -⟩ := K1.out
  go_wp2_with fail
  go_loopw [4, 5] (fun s4 s5 wr => ∃ k : Nat, k ≤ n ∧ s5 = .int .i64 ((n : Int) - 1 - (k : Int)) ∧ s4 = .int .i64 (val (l.drop (n - k))) ∧ Hid (Below W.heap.size W wr)) (fun _ s5 _ => (intOf s5 + 1).toNat)
  case atStart => exact ⟨0, Nat.zero_le _, by simp, by rw [Nat.sub_zero, ← HN.out, List.drop_length]; rfl, zH (bSelf W)⟩
  case round =>
    obtain ⟨k, hk, rfl, rfl, hB⟩ := hrel
    obtain ⟨-, k1, -⟩ := K1.out.to hB.out
    by_cases hlt : k < n
    · obtain ⟨j, hj⟩ : ∃ j, n - k = j + 1 := ⟨n - k - 1, by omega⟩
      rw [hj]
      obtain ⟨b, off, rfl, hb, hc⟩ := (HR.out.to hB.out).at (k := j) (by omega)
      obtain ⟨d, hd⟩ : ∃ d, gi l j = d := ⟨_, rfl⟩
      have c0 : wr.cell? ⟨b, off + j, none⟩ = some (.int .i64 d) := by have := hc j (by omega); rw [show ints l j = .int .i64 (gi l j) from rfl, hd] at this; exact this
      have hdd := HD.out.at j
      rw [hd] at hdd
      have hdr := HDR.out (j + 1)
      have hdj := HDR.out j
      have hst := val_dropS (l := l) (k := j) (by have := HN.out; omega)
      rw [hd] at hst
      have HST := zH hst
      obtain ⟨y, hy⟩ : ∃ y, val (l.drop (j + 1)) = y := ⟨_, rfl⟩
      obtain ⟨x, hx⟩ : ∃ y, val (l.drop j) = y := ⟨_, rfl⟩
      rw [hy] at hdr hst ⊢
      rw [hx] at hdj hst
      rw [hy] at HST
      have hij : (n : Int) - 1 - (k : Int) = (j : Int) := by omega
      rw [hij]
      have HIJ := zH hij
      have HJ := zH hj
      have hjn : (j : Int) < (n : Int) := by omega
      clear hc hd hy hx hij hj hlt
      go_wp2_with fail
      go_roundw
      case rel => exact ⟨k + 1, by have := HJ.out; omega, congrArg (Value.int .i64) (by have := HIJ.out; omega), congrArg (Value.int .i64) (by have := HJ.out; rw [show n - (k + 1) = j by omega, HST.out]; omega), hB⟩
      case measure => simp [intOf]
    · have hnk : n - k = 0 := by omega
      have hij : (n : Int) - 1 - (k : Int) = -1 := by omega
      rw [hnk, hij]
      have HV0 : Hid (val (l.drop 0) = V) := zH (by rw [List.drop_zero]; exact HVV.out)
      rw [HV0.out]
      have hV0 : 0 ≤ V := by have := (HDR.out 0).1; rw [HV0.out] at this; exact this
      have hzb : -1000000000000000000 < sg * V ∧ sg * V < 1000000000000000000 := by
        obtain ⟨s1, s2⟩ := hs
        have : sg = -1 ∨ sg = 0 ∨ sg = 1 := by omega
        rcases this with rfl | rfl | rfl <;> omega
      obtain ⟨z1, z2⟩ := hzb
      clear hij hnk hlt
      go_wp2_with fail
      refine bodyPost_ret (results_tmp2 rfl _ _ _) rfl ?_
      exact ⟨by rw [← HZ.out]; rfl, bThen HB.out hB.out⟩

/-- A small fraction out of one of any size. -/
theorem RatioFrac_any (q : Int × Int) (a1 a2 : Option Addr) (v : Value) (w : World) (hs : SmF q) (hr : RR w a1 a2 v q) :
    Calls Tryz.prog 63 #[v] w fun e w' => e = .returned (.tuple #[.agg #[.int .i64 q.1, .int .i64 q.2], .bool true]) ∧ Below w.heap.size w w' := by
  obtain ⟨s1, n1, c1, s2, n2, c2, rfl, h1, h2⟩ := hr
  have HW1 := zH (fun W (hb : Below w.heap.size w W) => WideInt_any q.1 a1 _ W (by have := hs.n0; omega) (by have := hs.n1; omega) (h1.to hb))
  have HW2 := zH (fun W (hb : Below w.heap.size w W) => WideInt_any q.2 a2 _ W (by have := hs.d0; omega) (by have := hs.d1; omega) (h2.to hb))
  have HS := zH (fun W => IsSmall_yes q W hs)
  obtain ⟨p1, p2⟩ := q
  dsimp only at HW1 HW2 HS ⊢
  clear h1 h2 hs
  go_enter Tryz.func63, Tryz.ntmps63
  go_wp2_with fail
  obtain ⟨W, hW⟩ : ∃ W, (w.alloc (.cells #[.int .i64 s1, .slice a1 n1 c1, .int .i64 s2, .slice a2 n2 c2] 112)).alloc (.cells #[.int .i64 0, .int .i64 0] 28) = W := ⟨_, rfl⟩
  rw [hW]
  have K1 : Hid (Blk W w.heap.size #[.int .i64 s1, .slice a1 n1 c1, .int .i64 s2, .slice a2 n2 c2]) := by subst hW; exact zH ((Blk.new _ _ _).alloc _)
  have K2 : Hid (Blk W (w.heap.size + 1) #[.int .i64 0, .int .i64 0]) := by subst hW; exact zH (Blk.newAt _ _ _ (by simp))
  have HB : Hid (Below w.heap.size w W) := by subst hW; exact zH (bAlloc (bAlloc (bSelf w) _) _)
  clear hW
  obtain ⟨-, k1, -⟩ := K1.out
  go_wp2_with fail
  refine (HW1.out _ HB.out).mono ?_
  rintro e w1 ⟨rfl, hb⟩
  replace K1 := zH (K1.out.to hb)
  replace K2 := zH (K2.out.to hb)
  replace HB := zH (bThen HB.out hb)
  clear hb k1
  obtain ⟨-, k1, -⟩ := K1.out
  go_wp2_with fail
  refine (HW2.out _ HB.out).mono ?_
  rintro e w2 ⟨rfl, hb⟩
  replace K2 := zH (K2.out.to hb)
  replace HB := zH (bThen HB.out hb)
  clear hb k1 K1
  go_wp2_with fail
  refine (HS.out _).mono ?_
  rintro e w3 ⟨rfl, hb⟩
  have K8 := zH ((Blk.new w2 #[.int .i64 p1, .int .i64 p2] 28).to hb)
  replace K2 := zH ((K2.out.alloc _).to hb)
  replace HB := zH (bThen (bAlloc HB.out _) hb)
  clear hb
  obtain ⟨-, k8, -⟩ := K8.out
  obtain ⟨-, k2, f2⟩ := K2.out
  go_wp2_with fail
  have F := (K2.out.set 0 (.int .i64 p1)).set 1 (.int .i64 p2)
  have F0 := F.2.1 0
  have F1 := F.2.1 1
  clear F k2 f2 k8
  refine bodyPost_ret (v := .tuple #[.agg #[.int .i64 p1, .int .i64 p2], .bool true]) ?_ rfl ⟨rfl, ?_⟩
  · simp [results, Tryz.results63, go_sem, F0, F1]
  · exact (HB.out.setCell (p := ⟨w.heap.size + 1, 0, none⟩) (by simp) _).setCell (p := ⟨w.heap.size + 1, 1, none⟩) (by simp) _
end
section
open Go.RowKit

theorem smF_frQ {q : Int × Int} (h : QOk q) : SmF (fr q.1 q.2) := by
  have h1 := fr_pos (n := q.1) (show 0 < q.2 from h.d0)
  have h2 := fr_bd1 (n := q.1) (m := q.2) (B := 1000000000) (by have := h.n0; have := h.n1; omega)
  have h3 := fr_bd2 (n := q.1) (m := q.2) (B := 1000000000) (by have := h.d0; have := h.d1; omega)
  exact ⟨by omega, by omega, by omega, by omega⟩
end
section
set_option maxRecDepth 100000
set_option maxHeartbeats 1600000
open Go.RowKit
attribute [local go_sem] Oper.semAt_some

theorem rgE_val (lo hi : Int) : rgE (lo, hi) = if wthn lo 0 50 = false then 2 else if wthn hi 0 50 = false then 2 else if hi < lo then 9 else 0 := by
  unfold rgE
  dsimp only
  by_cases h : hi < lo
  · rw [if_pos h, decide_eq_false (show ¬ lo ≤ hi by omega)]
    cases wthn lo 0 50 <;> cases wthn hi 0 50 <;> rfl
  · rw [if_neg h, decide_eq_true (show lo ≤ hi by omega)]
    cases wthn lo 0 50 <;> cases wthn hi 0 50 <;> rfl

theorem rRangeErr_any (lo hi : Int) (w : World) :
    Calls Tryz.prog 53 #[.agg #[.int .i64 lo, .int .i64 hi]] w fun e w' => e = .returned (.int .i64 (rgE (lo, hi))) ∧ Below w.heap.size w w' := by
  have H1 := zH (fun W => rFlowErr_any lo W)
  have H2 := zH (fun W => rFlowErr_any hi W)
  have HV := zH (rgE_val lo hi)
  obtain ⟨r, hr⟩ : ∃ r, rgE (lo, hi) = r := ⟨_, rfl⟩
  rw [hr] at HV ⊢
  obtain ⟨b1, hb1⟩ : ∃ b, wthn lo 0 50 = b := ⟨_, rfl⟩
  obtain ⟨b2, hb2⟩ : ∃ b, wthn hi 0 50 = b := ⟨_, rfl⟩
  rw [hb1] at H1 HV
  rw [hb2] at H2 HV
  clear hr hb1 hb2
  cases b1
  · obtain rfl : r = 2 := HV.out
    clear HV
    go_enter Tryz.func53, Tryz.ntmps53
    go_wp2_with (go_at_call 33; refine (H1.out _).mono ?_; rintro e w' ⟨rfl, rfl⟩; rw [show unl false 2 = 2 from rfl])
    go_ret
    exact ⟨rfl, bAlloc (bSelf w) _⟩
  · cases b2
    · obtain rfl : r = 2 := HV.out
      clear HV
      go_enter Tryz.func53, Tryz.ntmps53
      go_wp2_with (go_at_call 33; first | (refine (H1.out _).mono ?_; rintro e w' ⟨rfl, rfl⟩; rw [show unl true 2 = 0 from rfl]) | (refine (H2.out _).mono ?_; rintro e w' ⟨rfl, rfl⟩; rw [show unl false 2 = 2 from rfl]))
      go_ret
      exact ⟨rfl, bAlloc (bSelf w) _⟩
    · by_cases h : hi < lo
      · obtain rfl : r = 9 := by rw [HV.out, if_neg (by decide), if_neg (by decide), if_pos h]
        clear HV
        go_enter Tryz.func53, Tryz.ntmps53
        go_wp2_with (go_at_call 33; first | (refine (H1.out _).mono ?_; rintro e w' ⟨rfl, rfl⟩; rw [show unl true 2 = 0 from rfl]) | (refine (H2.out _).mono ?_; rintro e w' ⟨rfl, rfl⟩; rw [show unl true 2 = 0 from rfl]))
        go_ret
        exact ⟨rfl, bAlloc (bSelf w) _⟩
      · obtain rfl : r = 0 := by rw [HV.out, if_neg (by decide), if_neg (by decide), if_neg h]
        clear HV
        go_enter Tryz.func53, Tryz.ntmps53
        go_wp2_with (go_at_call 33; first | (refine (H1.out _).mono ?_; rintro e w' ⟨rfl, rfl⟩; rw [show unl true 2 = 0 from rfl]) | (refine (H2.out _).mono ?_; rintro e w' ⟨rfl, rfl⟩; rw [show unl true 2 = 0 from rfl]))
        go_ret
        exact ⟨rfl, bAlloc (bSelf w) _⟩

theorem rCheckClass_any (c : List (Int × Int)) (a : Option Addr) (cap : Nat) (w : World) (hr : Reads w a (c.length * 2) (fracs c)) :
    Calls Tryz.prog 71 #[.slice a c.length cap] w fun e w' => e = .returned (.tuple #[.int .i64 (chCl c).1, .int .i64 (chCl c).2]) ∧ Below w.heap.size w w' := by
  have HR := zH hr
  have HRG := zH (fun lo hi W => rRangeErr_any lo hi W)
  have HCH : Hid (chCl c = if 20 < c.length then (0, 8) else eachR (fun k => rgE (fg c k)) 0 c.length) := zH rfl
  obtain ⟨⟨c1, c2⟩, hc⟩ : ∃ x, chCl c = x := ⟨_, rfl⟩
  rw [hc] at HCH ⊢
  obtain ⟨n, hn⟩ : ∃ n, c.length = n := ⟨_, rfl⟩
  rw [hn] at HR HCH ⊢
  dsimp only
  clear hr hc hn
  by_cases h20 : 20 < n
  · have hq := HCH.out
    rw [if_pos h20] at hq
    injection hq with h1 h2
    subst h1 h2
    clear HCH
    go_enter Tryz.func71, Tryz.ntmps71
    go_wp2_with fail
    go_ret2
    exact ⟨rfl, bSelf w⟩
  · have hq := HCH.out
    rw [if_neg h20] at hq
    replace HCH := zH hq
    clear hq
    go_enter Tryz.func71, Tryz.ntmps71
    go_wp2_with fail
    go_loopw [4, 5] (fun s4 _ wr => ∃ k : Nat, k ≤ n ∧ s4 = .int .i64 k ∧ Hid (eachR (fun k => rgE (fg c k)) 0 n = eachR (fun k => rgE (fg c k)) k (n - k)) ∧ Hid (Below w.heap.size w wr)) (fun s4 _ _ => n - (intOf s4).toNat)
    case atStart => exact ⟨0, Nat.zero_le _, rfl, zH rfl, zH (bSelf w)⟩
    case round =>
      obtain ⟨k, hk, rfl, hee, hB⟩ := hrel
      by_cases hlt : k < n
      · have HBAD : Hid (∀ e, rgE (fg c k) = e → e ≠ 0 → (c1, c2) = ((k : Int), e)) := zH (fun e he hne => by
          have h1 := eachR_stop (err := fun k => rgE (fg c k)) hlt (by rw [he]; exact hne)
          rw [HCH.out, hee.out, h1, he])
        have HGO : Hid (rgE (fg c k) = 0 → eachR (fun k => rgE (fg c k)) 0 n = eachR (fun k => rgE (fg c k)) (k + 1) (n - (k + 1))) := zH (fun h => hee.out.trans (eachR_step (err := fun k => rgE (fg c k)) hlt h))
        obtain ⟨b, off, rfl, hb, hc⟩ := (HR.out.to hB.out).at (k := k * 2) (by omega)
        obtain ⟨⟨v, q⟩, hv⟩ : ∃ v, fg c k = v := ⟨_, rfl⟩
        have h0 : wr.cell? ⟨b, off + k * 2, none⟩ = some (.int .i64 v) := by have := hc (k * 2) (by omega); rw [fracs0, hv] at this; exact this
        have h1 : wr.cell? ⟨b, off + k * 2 + 1, none⟩ = some (.int .i64 q) := by have := hc (k * 2 + 1) (by omega); rw [fracs1, hv] at this; exact this
        rw [hv] at HBAD HGO
        clear hc hv
        obtain ⟨e0, he0⟩ : ∃ e, rgE (v, q) = e := ⟨_, rfl⟩
        have HRK := zH (fun W => HRG.out v q W)
        rw [he0] at HBAD HGO HRK
        clear he0
        by_cases hz : e0 = 0
        · subst hz
          go_wp2_with (go_at_call 53; refine (HRK.out _).mono ?_; rintro e w' ⟨rfl, hb5⟩; have HB5 := zH hb5; clear hb5)
          go_roundw
          case rel => exact ⟨k + 1, by omega, by go_num, zH (HGO.out (by first | trivial | rfl)), zH (bThen hB.out HB5.out)⟩
          case measure => simp [intOf]; omega
        · have hq := HBAD.out e0 rfl hz
          injection hq with q1 q2
          subst q1 q2
          have hz' : (c2 != 0) = true := by simpa using hz
          go_wp2_with (go_at_call 53; refine (HRK.out _).mono ?_; rintro e w' ⟨rfl, hb5⟩; have HB5 := zH hb5; clear hb5)
          go_ret2
          exact ⟨rfl, bThen hB.out HB5.out⟩
      · obtain rfl : n = k := by omega
        have hq : (c1, c2) = (0, 0) := by rw [HCH.out, hee.out, Nat.sub_self]; rfl
        injection hq with q1 q2
        subst q1 q2
        go_wp2_with fail
        go_ret2
        exact ⟨rfl, hB.out⟩

theorem rClassErr_any (c : List (Int × Int)) (a : Option Addr) (cap : Nat) (w : World) (hr : Reads w a (c.length * 2) (fracs c)) :
    Calls Tryz.prog 81 #[.slice a c.length cap] w fun e w' => e = .returned (.int .i64 (chCl c).2) ∧ Below w.heap.size w w' := by
  have HC := zH (rCheckClass_any c a cap w hr)
  obtain ⟨⟨c1, c2⟩, hc⟩ : ∃ x, chCl c = x := ⟨_, rfl⟩
  rw [hc] at HC ⊢
  obtain ⟨n, hn⟩ : ∃ n, c.length = n := ⟨_, rfl⟩
  rw [hn] at HC ⊢
  dsimp only at HC ⊢
  clear hr hc hn
  go_enter Tryz.func81, Tryz.ntmps81
  go_wp2_with fail
  refine HC.out.mono ?_
  rintro e w' ⟨rfl, hb⟩
  have HB := zH hb
  clear hb
  go_wp2_with fail
  go_ret
  exact ⟨rfl, HB.out⟩

theorem lOpenErr_any (p : Plt) (s : OSt) (c : List (Int × Int)) (a ac : Option Addr) (cap cc : Nat) (w : World) (hlen : p.pts.length ≤ 100000) (hr : Reads w a (p.pts.length * 2) (fracs p.pts)) (hrc : Reads w ac (c.length * 2) (fracs c)) :
    Calls Tryz.prog 35 #[.agg (plC p a cap), .agg #[.int .i64 s.1, .bool s.2], .slice ac c.length cc] w fun e w' => e = .returned (.int .i64 (opCE p s.1 c)) ∧ Below w.heap.size w w' := by
  have HPE := zH (fun W (hb : Below w.heap.size w W) => rPlantErr_any p a cap W hlen (hr.to hb))
  have HSE := zH (fun W (h0 : (chP p).2 = 0) (hb : Below w.heap.size w W) => rStateErr_any p s a cap W (by have := (chP_ok h0).pts.two; omega) hlen (hr.to hb))
  have HCE := zH (fun W (hb : Below w.heap.size w W) => rClassErr_any c ac cc W (hrc.to hb))
  have HV : Hid (opCE p s.1 c = if (chP p).2 = 0 then (if stE p s.1 = 0 then (chCl c).2 else stE p s.1) else (chP p).2) := zH (by
    unfold opCE firstE
    rw [show opSE p s.1 = if (chP p).2 = 0 then stE p s.1 else (chP p).2 from rfl]
    by_cases h : (chP p).2 = 0
    · rw [if_pos h, if_pos h]
      by_cases h2 : stE p s.1 = 0
      · rw [if_pos h2, if_pos h2]
        unfold firstE
        by_cases h3 : (chCl c).2 = 0
        · rw [if_pos h3, h3]; rfl
        · rw [if_neg h3]
      · rw [if_neg h2, if_neg h2]
    · rw [if_neg h, if_neg h, if_neg h])
  obtain ⟨ch, hch⟩ : ∃ n, (chP p).2 = n := ⟨_, rfl⟩
  obtain ⟨st, hst⟩ : ∃ n, stE p s.1 = n := ⟨_, rfl⟩
  obtain ⟨ce, hce⟩ : ∃ n, (chCl c).2 = n := ⟨_, rfl⟩
  obtain ⟨o, ho⟩ : ∃ n, opCE p s.1 c = n := ⟨_, rfl⟩
  obtain ⟨m, hm⟩ : ∃ n, p.pts.length = n := ⟨_, rfl⟩
  obtain ⟨n, hn⟩ : ∃ n, c.length = n := ⟨_, rfl⟩
  rw [hch] at HPE HSE HV
  rw [hst] at HSE HV
  rw [hce] at HCE HV
  rw [ho] at HV ⊢
  unfold plC at HPE HSE ⊢
  rw [hm] at HPE HSE ⊢
  rw [hn] at HCE ⊢
  obtain ⟨s1, sr⟩ := s
  dsimp only at HSE ⊢
  clear hch hst hce ho hm hn hr hrc hlen
  go_enter Tryz.func35, Tryz.ntmps35
  go_wp2_with fail
  refine (HPE.out _ (bAlloc (bAlloc (bSelf w) _) _)).mono ?_
  rintro e w1 ⟨rfl, hb⟩
  have K3 : Hid (Blk w1 w.heap.size #[.slice a m cap, .int .i64 p.pump, .int .i64 p.on, .int .i64 p.off]) := zH (((Blk.new _ _ _).alloc _).to hb)
  have K4 : Hid (Blk w1 (w.heap.size + 1) #[.int .i64 s1, .bool sr]) := zH ((Blk.newAt _ _ _ (by simp)).to hb)
  have HB := zH (bThen (bAlloc (bAlloc (bSelf w) _) _) hb)
  clear hb HPE
  by_cases hc : ch = 0
  · subst hc
    rw [if_pos rfl] at HV
    obtain ⟨-, k3, -⟩ := K3.out
    obtain ⟨-, k4, -⟩ := K4.out
    go_wp2_with fail
    refine (HSE.out _ (by first | trivial | rfl) HB.out).mono ?_
    rintro e w2 ⟨rfl, hb⟩
    replace HB := zH (bThen HB.out hb)
    clear hb k3 k4 K3 K4 HSE
    by_cases hs : st = 0
    · subst hs
      rw [if_pos rfl] at HV
      obtain rfl : o = ce := HV.out
      go_wp2_with fail
      refine (HCE.out _ HB.out).mono ?_
      rintro e w3 ⟨rfl, hb⟩
      replace HB := zH (bThen HB.out hb)
      clear hb HCE
      go_wp2_with fail
      go_ret
      exact ⟨rfl, HB.out⟩
    · rw [if_neg hs] at HV
      obtain rfl : o = st := HV.out
      have hs' : (o != 0) = true := by simpa using hs
      go_wp2_with fail
      go_ret
      exact ⟨rfl, HB.out⟩
  · rw [if_neg hc] at HV
    obtain rfl : o = ch := HV.out
    have hs' : (o != 0) = true := by simpa using hc
    go_wp2_with fail
    go_ret
    exact ⟨rfl, HB.out⟩
end
section
open Go.RowKit
attribute [local go_sem] Oper.semAt_some

/-- No range is wider than so much. -/
def spanB (d : Int) (c : List (Int × Int)) : Bool := decide (∀ k, k < c.length → (fg c k).2 - (fg c k).1 ≤ d)
theorem spanB_no {d : Int} {c : List (Int × Int)} {k : Nat} (hk : k < c.length) (h : d < (fg c k).2 - (fg c k).1) : spanB d c = false := by
  unfold spanB
  exact decide_eq_false (fun hh => by have := hh k hk; omega)
theorem spanB_yes {d : Int} {c : List (Int × Int)} (h : ∀ k, k < c.length → (fg c k).2 - (fg c k).1 ≤ d) : spanB d c = true := decide_eq_true h
def clssB (c : List (Int × Int)) : Bool := if 22 < c.length then false else if (chCl c).2 = 0 then spanB 11 c && decide (c.length ≤ 5) else true

set_option maxHeartbeats 1600000 in
set_option maxRecDepth 100000 in
theorem lClasses_any (c : List (Int × Int)) (a : Option Addr) (cap : Nat) (w : World) (hr : Reads w a (c.length * 2) (fracs c)) :
    Calls Tryz.prog 34 #[.slice a c.length cap] w fun e w' => e = .returned (.bool (clssB c)) ∧ Below w.heap.size w w' := by
  have HCE := zH (rClassErr_any c a cap w hr)
  have HR := zH hr
  have HCK := zH (fun hc0 => chCl_ok (c := c) hc0)
  have HV : Hid (clssB c = if 22 < c.length then false else if (chCl c).2 = 0 then spanB 11 c && decide (c.length ≤ 5) else true) := zH rfl
  have HSN0 := zH (fun k (hk : k < c.length) h => spanB_no (d := 11) hk h)
  have HSY0 := zH (fun h => spanB_yes (d := 11) (c := c) h)
  obtain ⟨r, hr'⟩ : ∃ r, clssB c = r := ⟨_, rfl⟩
  obtain ⟨sp, hsp⟩ : ∃ r, spanB 11 c = r := ⟨_, rfl⟩
  obtain ⟨ce, hce⟩ : ∃ r, (chCl c).2 = r := ⟨_, rfl⟩
  obtain ⟨n, hn⟩ : ∃ n, c.length = n := ⟨_, rfl⟩
  rw [hr'] at HV ⊢
  rw [hsp] at HV HSN0 HSY0
  rw [hce] at HCE HCK HV
  rw [hn] at HR HCE HCK HV HSN0 HSY0 ⊢
  clear hr hr' hn hsp hce
  by_cases h22 : 22 < n
  · obtain rfl : r = false := by rw [HV.out, if_pos h22]
    go_enter Tryz.func34, Tryz.ntmps34
    go_wp2_with fail
    go_ret
    exact ⟨rfl, bSelf w⟩
  · replace HV : Hid (r = if ce = 0 then sp && decide (n ≤ 5) else true) := zH (by rw [HV.out, if_neg h22])
    by_cases hz : ce = 0
    · subst hz
      obtain ⟨hn20, hck⟩ := HCK.out rfl
      replace HCK := zH (And.intro hn20 hck)
      clear hck
      have HSN := zH (fun k (hk : k < n) h => (show r = false from by rw [HV.out, if_pos rfl, HSN0.out k hk h]; rfl))
      have HSY := zH (fun h => (show r = decide (n ≤ 5) from by rw [HV.out, if_pos rfl, HSY0.out h]; rfl))
      clear HSN0 HSY0 HV
      go_enter Tryz.func34, Tryz.ntmps34
      go_wp2_with fail
      refine HCE.out.mono ?_
      rintro e w1 ⟨rfl, hb⟩
      have HB := zH hb
      replace HR := zH (HR.out.to hb)
      clear hb HCE
      go_wp2_with fail
      go_loopw [3] (fun s3 wr => ∃ k : Nat, k ≤ n ∧ s3 = .int .i64 k ∧ Hid (∀ j, j < k → (fg c j).2 - (fg c j).1 ≤ 11) ∧ Hid (Below w1.heap.size w1 wr)) (fun s3 _ => n - (intOf s3).toNat)
      case atStart => exact ⟨0, Nat.zero_le _, rfl, zH (fun j hj => by omega), zH (bSelf w1)⟩
      case round =>
        obtain ⟨k, hk, rfl, hp, hB⟩ := hrel
        by_cases hlt : k < n
        · obtain ⟨b, off, rfl, hb, hc⟩ := (HR.out.to hB.out).at (k := k * 2) (by omega)
          obtain ⟨⟨v, q⟩, hv⟩ : ∃ v, fg c k = v := ⟨_, rfl⟩
          have HVQ := zH hv
          have H0 : Hid (wr.cell? ⟨b, off + k * 2, none⟩ = some (.int .i64 v)) := zH (by have := hc (k * 2) (by omega); rw [fracs0, hv] at this; exact this)
          have H1 : Hid (wr.cell? ⟨b, off + k * 2 + 1, none⟩ = some (.int .i64 q)) := zH (by have := hc (k * 2 + 1) (by omega); rw [fracs1, hv] at this; exact this)
          have hvb := HCK.out.2 k hlt
          rw [hv] at hvb
          dsimp only at hvb
          have HNO := zH (fun (h : 11 < q - v) => HSN.out k hlt (by rw [hv]; exact h))
          clear hc hv
          go_wp2_with fail
          refine wp_region_quiet_all (fun w' => Below (World.heap wr).size (wr) w') (by kernel_rfl) (by kernel_rfl) (Below.refl _ _).drew ?_
          refine WQ.out ?_
          repeat (first | (refine WQ_no (by rfl) ?_; (simp only [Act.put, zzT, zzO, zzS])) | (refine WQ_yes (by rfl) ?_; apply Exists.intro; refine ⟨fun w1 hb1 => ?_, ?_⟩; (focus (((have k1 := (hb1.cell (p := ⟨b, off + k * 2, none⟩) hb).trans H0.out; have k2 := (hb1.cell (p := ⟨b, off + k * 2 + 1, none⟩) hb).trans H1.out); have hb1 := zH hb1; go_simp); (try (go_bits; try go_simp)); (try (rw [if_pos (by omega)]; try go_simp)); (first | done | (with_reducible rfl) | exact rfl))); (simp only [Act.put, zzT, zzO, zzS])))
          refine WQ_nil ?_
          intro w1 hb1
          have HB1 := zH hb1
          clear hb1 H0 H1
          by_cases hw : 11 < q - v
          · obtain rfl : r = false := HNO.out hw
            go_wp2_with fail
            go_ret
            exact ⟨rfl, bThen (bThen HB.out hB.out) HB1.out⟩
          · go_wp2_with fail
            go_roundw
            case rel =>
              refine ⟨k + 1, by omega, by go_num, zH (fun j hj => ?_), zH (bThen hB.out HB1.out)⟩
              by_cases h : j = k
              · subst h; rw [HVQ.out]; dsimp only; omega
              · exact hp.out j (by omega)
            case measure => simp [intOf]; omega
        · obtain rfl : n = k := by omega
          have hq := HSY.out hp.out
          subst hq
          go_wp2_with fail
          go_ret
          exact ⟨ret_bool (by by_cases h : n ≤ 5 <;> simp [h] <;> omega), bThen HB.out hB.out⟩
    · obtain rfl : r = true := by rw [HV.out, if_neg hz]
      have hz' : (ce != 0) = true := by simpa using hz
      clear HCK HSN0 HSY0 HV
      go_enter Tryz.func34, Tryz.ntmps34
      go_wp2_with fail
      refine HCE.out.mono ?_
      rintro e w1 ⟨rfl, hb⟩
      have HB := zH hb
      clear hb HCE
      go_wp2_with fail
      go_ret
      exact ⟨rfl, HB.out⟩
end
section
open Go.RowKit
attribute [local go_sem] Oper.semAt_some

theorem rtRg : RowTy Tryz.prog 65 25 2 16 (.agg #[.int .i64 0, .int .i64 0]) := by
  obtain ⟨i, h1, h2, h3, h4⟩ := info_parts (show (Tryz.prog.info? 25).map (fun i => (i.zero, i.size, i.bytes)) = some (some (.agg #[.int .i64 0, .int .i64 0]), 2, 16) by kernel_rfl)
  exact ⟨by kernel_rfl, ⟨i, h1, h2, h3, h4⟩, rfl, by omega, by omega⟩

set_option maxHeartbeats 800000 in
set_option maxRecDepth 100000 in
theorem CopyRanges_any (c : List (Int × Int)) (a : Option Addr) (cap : Nat) (w : World) (hfew : c.length ≤ 100000) (hr : Reads w a (c.length * 2) (fracs c)) :
    Calls Tryz.prog 39 #[.slice a c.length cap] w fun e w' => ∃ a' cap', e = .returned (.slice a' c.length cap') ∧ c.length ≤ cap' ∧ Reads w' a' (c.length * 2) (fracs c) ∧ Below w.heap.size w w' ∧ ∀ p, a' = some p → w.heap.size ≤ p.block := by
  cases a with
  | none =>
    have h0 : c.length = 0 := by
      rcases hr with h | ⟨b, off, e, -⟩
      · omega
      · cases e
    rw [h0]
    clear hr
    go_enter Tryz.func39, Tryz.ntmps39
    go_wp2_with fail
    go_ret
    exact ⟨_, _, rfl, by omega, .inl rfl, bAlloc (bSelf w) _, fun p hp => by cases hp; exact Nat.le_refl _⟩
  | some ad =>
    have HR := zH hr
    have HN := zH (Reads.newsF (HR.out.alloc (.cells #[] 25)))
    have HPO : Hid (∀ (u2 : World) (v : Value), u2.ownsRow w.heap.size 25 2 v c.length (fcells c) → ∃ a' c', v = .slice a' c.length c' ∧ c.length ≤ c' ∧ Reads u2 a' (c.length * 2) (fracs c) ∧ ∀ q, a' = some q → w.heap.size ≤ q.block) := zH (fun u2 v h => Reads.of_row (f := fracs c) h (fun i hi => fcells_get c i hi))
    have HCL : Hid ((fcells c).length = c.length * 2) := zH (fcells_len c)
    have HON := zH (onesF c)
    obtain ⟨n, hn⟩ : ∃ n, c.length = n := ⟨_, rfl⟩
    rw [hn] at HPO HCL hfew ⊢
    clear hr HR hn
    go_enter Tryz.func39, Tryz.ntmps39
    go_wp2_with (at_builtin; refine wpList_app w.heap.size rtRg rfl (.tmp 3) (.tmp 4) rfl (.slice (some ⟨w.heap.size, 0, none⟩) 0 0) 0 [] rfl (World.ownsRow_lit w #[] 0 (Nat.le_refl _) (by decide) rfl) ad n cap (fcells c) rfl HCL.out HN.out HON.out (by unfold maxLen; omega) (by omega) (by simp) ?_; intro v' w2 hown' hgrow _ hwhere; have HO := zH hown'; have HBB : Hid (Below w.heap.size w w2) := zH ((bAlloc (bSelf w) _).grown hgrow (by simp) (fun k e => by cases e; exact Nat.le_refl _)); clear hown' hgrow hwhere)
    go_ret
    have hrow := HO.out
    rw [Nat.zero_add, List.nil_append] at hrow
    obtain ⟨a', cap', rfl, hcp, hrd, hfr⟩ := HPO.out _ _ hrow
    exact ⟨a', cap', rfl, hcp, hrd, HBB.out, hfr⟩
end
section
open Go.RowKit

/-- A range scaled by percents. -/
def scR (pc : Int) (r : Int × Int) : Int × Int := (flQ (pc * r.1, 100), clQ (pc * r.2, 100))
/-- A class scaled by percents; none: an end would be too great. -/
def sclQ (pc : Int) : List (Int × Int) → Option (List (Int × Int))
  | [] => some []
  | r :: l => if 50 < (scR pc r).2 then none else (sclQ pc l).map (scR pc r :: ·)
theorem sclQ_len {pc : Int} : ∀ {l m : List (Int × Int)}, sclQ pc l = some m → m.length = l.length ∧ ∀ i, i < l.length → fg m i = scR pc (fg l i) ∧ (fg m i).2 ≤ 50
  | [], m, h => by cases h; exact ⟨rfl, fun i hi => by simp at hi⟩
  | r :: l, m, h => by
    unfold sclQ at h
    by_cases c : 50 < (scR pc r).2
    · rw [if_pos c] at h; cases h
    · rw [if_neg c] at h
      cases e : sclQ pc l with
      | none => rw [e] at h; cases h
      | some k =>
        rw [e] at h
        cases h
        obtain ⟨h1, h2⟩ := sclQ_len e
        refine ⟨by rw [List.length_cons, List.length_cons, h1], fun i hi => ?_⟩
        cases i with
        | zero => exact ⟨rfl, by show (scR pc r).2 ≤ 50; omega⟩
        | succ i => exact h2 i (by rw [List.length_cons] at hi; omega)
end
end Go.Proofs.YtjfedpblkejmkaaGreat
