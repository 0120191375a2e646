/-
  Texts of this claim, in their build order: OR1 OR2 R1 OR3.
-/
import Derived.Test.YtjfedpblkejmkaaGreatCol33
import Derived.Test.YtjfedpblkejmkaaGreatCol1
import Derived.Test.YtjfedpblkejmkaaGreatCol21
import Derived.Test.YtjfedpblkejmkaaGreatCol17

/-
  The reference's columns: MassErr, ColumnErr.
-/
namespace Go.Proofs.YtjfedpblkejmkaaGreat
open Go.RowKit
attribute [local go_sem] Oper.semAt_some

theorem rWithin_any (n lo hi : Int) (w : World) :
    Calls Tryz.prog 42 #[.int .i64 n, .int .i64 lo, .int .i64 hi] w fun e w' => e = .returned (.bool (wthn n lo hi)) ∧ w = w' := bWithin_any n lo hi w
theorem rMassErr_any (x : Int) (w : World) :
    Calls Tryz.prog 102 #[.int .i64 x] w fun e w' => e = .returned (.int .i64 (unl (wthn x 1 10000) 2)) ∧ w = w' := by
  have HW := Lib.hid (fun W => rWithin_any x 1 10000 W)
  obtain ⟨b, hb⟩ : ∃ b, wthn x 1 10000 = b := ⟨_, rfl⟩
  rw [hb] at HW ⊢
  clear hb
  cases b
  all_goals
    go_enter Tryz.func102, Tryz.ntmps102
    go_wp2_with (go_at_call 42; refine (HW.out _).mono ?_; rintro e w' ⟨rfl, rfl⟩)
    go_ret
    exact ⟨rfl, rfl⟩
set_option maxHeartbeats 800000 in
set_option maxRecDepth 100000 in
theorem rColumnErr_any (x y z : Int) (w : World) :
    Calls Tryz.prog 17 #[.agg #[.int .i64 x, .int .i64 y, .int .i64 z]] w fun e w' => e = .returned (.int .i64 (clmE x y z)) ∧ Below w.heap.size w w' := by
  have HE : Hid (clmE x y z = unl (wthn x 1 10000 && wthn y 1 10000 && wthn z 1 10000) 2) := Lib.hid (by unfold clmE colB; simp [Bool.and_assoc])
  have HX := Lib.hid (fun W => rMassErr_any x W)
  have HY := Lib.hid (fun W => rMassErr_any y W)
  have HZ := Lib.hid (fun W => rMassErr_any z W)
  obtain ⟨e, he⟩ : ∃ e, clmE x y z = e := ⟨_, rfl⟩
  obtain ⟨bx, hx⟩ : ∃ b, wthn x 1 10000 = b := ⟨_, rfl⟩
  obtain ⟨b2, hy⟩ : ∃ b, wthn y 1 10000 = b := ⟨_, rfl⟩
  obtain ⟨b3, hz⟩ : ∃ b, wthn z 1 10000 = b := ⟨_, rfl⟩
  rw [he, hx, hy, hz] at HE
  rw [hx] at HX
  rw [hy] at HY
  rw [hz] at HZ
  rw [he]
  clear he hx hy hz
  cases bx
  all_goals cases b2
  all_goals cases b3
  all_goals
    go_enter Tryz.func17, Tryz.ntmps17
    go_wp2_with (first | (go_at_call 102; refine (HX.out _).mono ?_; rintro e w' ⟨rfl, rfl⟩) | (go_at_call 102; refine (HY.out _).mono ?_; rintro e w' ⟨rfl, rfl⟩) | (go_at_call 102; refine (HZ.out _).mono ?_; rintro e w' ⟨rfl, rfl⟩))
    go_ret
    exact ⟨ret_int (by rw [HE.out]; rfl), bAlloc (bSelf w) _⟩

end Go.Proofs.YtjfedpblkejmkaaGreat

/-
  The reference's columns: MassesErr.
-/
namespace Go.Proofs.YtjfedpblkejmkaaGreat
open Go.RowKit
attribute [local go_sem] Oper.semAt_some

/-- The error of masses and a band. -/
def mssE (a b lo hi : Int) : Int := firstE [unl (wthn a 1 10000 && wthn b 1 10000) 2, unl (!decide (b < a)) 9, unl (wthn lo 0 1000000000 && wthn hi 0 1000000000) 2, unl (!decide (hi < lo)) 9]

set_option maxHeartbeats 3200000 in
set_option maxRecDepth 100000 in
theorem rMassesErr_any (a b lo hi : Int) (w : World) :
    Calls Tryz.prog 19 #[.agg #[.int .i64 a, .int .i64 b], .agg #[.int .i64 lo, .int .i64 hi]] w fun e w' => e = .returned (.int .i64 (mssE a b lo hi)) ∧ Below w.heap.size w w' := by
  have HE : Hid (mssE a b lo hi = firstE [unl (wthn a 1 10000 && wthn b 1 10000) 2, unl (!decide (b < a)) 9, unl (wthn lo 0 1000000000 && wthn hi 0 1000000000) 2, unl (!decide (hi < lo)) 9]) := Lib.hid rfl
  have HA := Lib.hid (fun W => rMassErr_any a W)
  have HB := Lib.hid (fun W => rMassErr_any b W)
  have HL := Lib.hid (fun W => rWithin_any lo 0 1000000000 W)
  have HH := Lib.hid (fun W => rWithin_any hi 0 1000000000 W)
  obtain ⟨e, he⟩ : ∃ e, mssE a b lo hi = e := ⟨_, rfl⟩
  obtain ⟨ba, ha⟩ : ∃ b, wthn a 1 10000 = b := ⟨_, rfl⟩
  obtain ⟨bb, hb⟩ : ∃ x, wthn b 1 10000 = x := ⟨_, rfl⟩
  obtain ⟨bl, hl⟩ : ∃ b, wthn lo 0 1000000000 = b := ⟨_, rfl⟩
  obtain ⟨bh, hh⟩ : ∃ b, wthn hi 0 1000000000 = b := ⟨_, rfl⟩
  rw [he, ha, hb, hl, hh] at HE
  rw [ha] at HA
  rw [hb] at HB
  rw [hl] at HL
  rw [hh] at HH
  rw [he]
  clear he ha hb hl hh
  have HBW := Lib.hid (show Below w.heap.size w ((w.alloc (.cells #[.int .i64 a, .int .i64 b] 25)).alloc (.cells #[.int .i64 lo, .int .i64 hi] 25)) from bAlloc (bAlloc (bSelf w) _) _)
  go_enter Tryz.func19, Tryz.ntmps19
  go_wp2_with fail
  refine (HA.out _).mono ?_
  rintro e w' ⟨rfl, rfl⟩
  cases ba with
  | false =>
    go_wp2_with fail
    go_ret
    exact ⟨ret_int (by rw [HE.out]; rfl), HBW.out⟩
  | true =>
    go_wp2_with fail
    refine (HB.out _).mono ?_
    rintro e w' ⟨rfl, rfl⟩
    cases bb with
    | false =>
      go_wp2_with fail
      go_ret
      exact ⟨ret_int (by rw [HE.out]; rfl), HBW.out⟩
    | true =>
      cases g1 : decide (b < a) with
      | true =>
        rw [g1] at HE
        go_wp2_with fail
        go_ret
        exact ⟨ret_int (by rw [HE.out]; rfl), HBW.out⟩
      | false =>
        rw [g1] at HE
        go_wp2_with fail
        refine (HL.out _).mono ?_
        rintro e w' ⟨rfl, rfl⟩
        cases bl with
        | false =>
          go_wp2_with fail
          go_ret
          exact ⟨ret_int (by rw [HE.out]; rfl), HBW.out⟩
        | true =>
          go_wp2_with fail
          refine (HH.out _).mono ?_
          rintro e w' ⟨rfl, rfl⟩
          cases bh with
          | false =>
            go_wp2_with fail
            go_ret
            exact ⟨ret_int (by rw [HE.out]; rfl), HBW.out⟩
          | true =>
            cases g2 : decide (hi < lo) with
            | true =>
              rw [g2] at HE
              go_wp2_with fail
              go_ret
              exact ⟨ret_int (by rw [HE.out]; rfl), HBW.out⟩
            | false =>
              rw [g2] at HE
              go_wp2_with fail
              go_ret
              exact ⟨ret_int (by rw [HE.out]; rfl), HBW.out⟩

end Go.Proofs.YtjfedpblkejmkaaGreat

/-
  Contracts of the base: Mod, Compare at once, IsSmall; areLowest of the statements.
-/
namespace Go.Proofs.YtjfedpblkejmkaaGreat
open Go.RowKit

set_option maxHeartbeats 400000 in
theorem IsSmall_yes (p : Int × Int) (w : World) (hp : SmF p) :
    Calls Tryz.prog 138 #[.agg #[.int .i64 p.1, .int .i64 p.2]] w fun e w' => e = .returned (.bool true) ∧ Below w.heap.size w w' := by
  obtain ⟨n, d⟩ := p
  obtain ⟨n0, n1, d0, d1⟩ := hp
  dsimp only at n0 n1 d0 d1 ⊢
  have e1 : (decide (-1000000000 ≤ n) && decide (n ≤ 1000000000)) = true := by rw [decide_eq_true n0, decide_eq_true n1]; rfl
  have e2 : (decide (1 ≤ d) && decide (d ≤ 1000000000)) = true := by rw [decide_eq_true d0, decide_eq_true d1]; rfl
  have E1 := Lib.hid e1
  have E2 := Lib.hid e2
  clear e1 e2
  go_enter Tryz.func138, Tryz.ntmps138
  go_wp2_with fail
  refine (bWithin_any _ _ _ _).mono ?_
  rintro e w' ⟨rfl, rfl⟩
  rw [E1.out]
  go_wp2_with fail
  refine (bWithin_any _ _ _ _).mono ?_
  rintro e w' ⟨rfl, rfl⟩
  rw [E2.out]
  go_wp2_with fail
  go_ret
  exact ⟨rfl, bAlloc (bSelf w) _⟩

end Go.Proofs.YtjfedpblkejmkaaGreat

/-
  Base: WideInt, RatioFrac at small fractions, Cmp of fractions.
-/
namespace Go.Proofs.YtjfedpblkejmkaaGreat
open Go.RowKit
attribute [local go_sem] Oper.semAt_some

theorem Dig.drop {l : List Int} (h : Dig l) (n : Nat) : Dig (l.drop n) := fun d hd => h d (List.mem_of_mem_drop hd)
theorem val_dropS {l : List Int} {k : Nat} (hk : k < l.length) : val (l.drop k) = gi l k + 1000000000 * val (l.drop (k + 1)) := by
  rw [gi_drop l k hk]; rfl
theorem val_drop_le {l : List Int} (hd : Dig l) : ∀ k, 0 ≤ val (l.drop k) ∧ val (l.drop k) ≤ val l
  | 0 => ⟨val_nonneg hd, Int.le_refl _⟩
  | k + 1 => by
    obtain ⟨h1, h2⟩ := val_drop_le hd k
    refine ⟨val_nonneg (hd.drop _), ?_⟩
    by_cases hk : k < l.length
    · have := val_dropS hk
      have h3 := (hd.at k).1
      have h4 := val_nonneg (hd.drop (k + 1))
      omega
    · rw [List.drop_of_length_le (by omega)]
      exact val_nonneg hd
theorem sign_val (z : Int) : z.sign * val (dg z) = z := by rw [val_dg]; exact Int.sign_mul_natAbs z

set_option maxHeartbeats 1600000 in
set_option maxRecDepth 100000 in
theorem WideInt_any (z : Int) (a : Option Addr) (v : Value) (w : World) (h1 : -1000000000000000000 < z) (h2 : z < 1000000000000000000) (hw : RW w a v z) :
    Calls Tryz.prog 118 #[v] w fun e w' => e = .returned (.tuple #[.int .i64 z, .bool true]) ∧ Below w.heap.size w w' := by
  obtain ⟨cap, rfl, hcap, hr⟩ := hw
  have hlen : (dg z).length ≤ 2 := digs_len 2 z.natAbs (Nat.lt_of_lt_of_eq (show z.natAbs < 1000000000000000000 by omega) (by decide))
  have HD := Lib.hid (dg_dig z)
  have HZ := Lib.hid (sign_val z)
  have hV : val (dg z) < 1000000000000000000 := by rw [val_dg]; omega
  have hs := sign_bd z
  obtain ⟨sg, hsg⟩ : ∃ s, z.sign = s := ⟨_, rfl⟩
  obtain ⟨l, hl⟩ : ∃ l, dg z = l := ⟨_, rfl⟩
  rw [hl] at hlen HD HZ hV hr hcap ⊢
  rw [hsg] at HZ hs ⊢
  have HR := Lib.hid hr
  have HDR := Lib.hid (fun k => val_drop_le HD.out k)
  obtain ⟨n, hn⟩ : ∃ n, l.length = n := ⟨_, rfl⟩
  have HN := Lib.hid hn
  rw [hn] at hlen HR hcap ⊢
  obtain ⟨V, hVV⟩ : ∃ V, val l = V := ⟨_, rfl⟩
  rw [hVV] at hV HZ HDR
  have HVV := Lib.hid hVV
  clear hr hl hsg hn hVV h1 h2
  go_enter Tryz.func118, Tryz.ntmps118
  go_wp2_with fail
  obtain ⟨W, hW⟩ : ∃ W, w.alloc (.cells #[.int .i64 sg, .slice a n cap] 110) = W := ⟨_, rfl⟩
  rw [hW]
  have K1 : Hid (Blk W w.heap.size #[.int .i64 sg, .slice a n cap]) := by subst hW; exact Lib.hid (Blk.new _ _ _)
  have HB : Hid (Below w.heap.size w W) := by subst hW; exact Lib.hid (bAlloc (bSelf w) _)
  replace HR : Hid (Reads W a n (ints l)) := by subst hW; exact Lib.hid (HR.out.alloc _)
  clear hW
  obtain ⟨-, k1, -⟩ := K1.out
  go_wp2_with fail
  go_loopw [4, 5] (fun s4 s5 wr => ∃ k : Nat, k ≤ n ∧ s5 = .int .i64 ((n : Int) - 1 - (k : Int)) ∧ s4 = .int .i64 (val (l.drop (n - k))) ∧ Hid (Below W.heap.size W wr)) (fun _ s5 _ => (intOf s5 + 1).toNat)
  case atStart => exact ⟨0, Nat.zero_le _, by simp, by rw [Nat.sub_zero, ← HN.out, List.drop_length]; rfl, Lib.hid (bSelf W)⟩
  case round =>
    obtain ⟨k, hk, rfl, rfl, hB⟩ := hrel
    obtain ⟨-, k1, -⟩ := K1.out.to hB.out
    by_cases hlt : k < n
    · obtain ⟨j, hj⟩ : ∃ j, n - k = j + 1 := ⟨n - k - 1, by omega⟩
      rw [hj]
      obtain ⟨b, off, rfl, hb, hc⟩ := (HR.out.to hB.out).at (k := j) (by omega)
      obtain ⟨d, hd⟩ : ∃ d, gi l j = d := ⟨_, rfl⟩
      have c0 : wr.cell? ⟨b, off + j, none⟩ = some (.int .i64 d) := by have := hc j (by omega); rw [show ints l j = .int .i64 (gi l j) from rfl, hd] at this; exact this
      have hdd := HD.out.at j
      rw [hd] at hdd
      have hdr := HDR.out (j + 1)
      have hdj := HDR.out j
      have hst := val_dropS (l := l) (k := j) (by have := HN.out; omega)
      rw [hd] at hst
      have HST := Lib.hid hst
      obtain ⟨y, hy⟩ : ∃ y, val (l.drop (j + 1)) = y := ⟨_, rfl⟩
      obtain ⟨x, hx⟩ : ∃ y, val (l.drop j) = y := ⟨_, rfl⟩
      rw [hy] at hdr hst ⊢
      rw [hx] at hdj hst
      rw [hy] at HST
      have hij : (n : Int) - 1 - (k : Int) = (j : Int) := by omega
      rw [hij]
      have HIJ := Lib.hid hij
      have HJ := Lib.hid hj
      have hjn : (j : Int) < (n : Int) := by omega
      clear hc hd hy hx hij hj hlt
      go_wp2_with fail
      go_roundw
      case rel => exact ⟨k + 1, by have := HJ.out; omega, congrArg (Value.int .i64) (by have := HIJ.out; omega), congrArg (Value.int .i64) (by have := HJ.out; rw [show n - (k + 1) = j by omega, HST.out]; omega), hB⟩
      case measure => simp [intOf]
    · have hnk : n - k = 0 := by omega
      have hij : (n : Int) - 1 - (k : Int) = -1 := by omega
      rw [hnk, hij]
      have HV0 : Hid (val (l.drop 0) = V) := Lib.hid (by rw [List.drop_zero]; exact HVV.out)
      rw [HV0.out]
      have hV0 : 0 ≤ V := by have := (HDR.out 0).1; rw [HV0.out] at this; exact this
      have hzb : -1000000000000000000 < sg * V ∧ sg * V < 1000000000000000000 := by
        obtain ⟨s1, s2⟩ := hs
        have : sg = -1 ∨ sg = 0 ∨ sg = 1 := by omega
        rcases this with rfl | rfl | rfl <;> omega
      obtain ⟨z1, z2⟩ := hzb
      clear hij hnk hlt
      go_wp2_with fail
      refine bodyPost_ret (results_tmp2 rfl _ _ _) rfl ?_
      exact ⟨by rw [← HZ.out]; rfl, bThen HB.out hB.out⟩

set_option maxHeartbeats 800000 in
set_option maxRecDepth 100000 in
theorem bCmp_any (p q : Int × Int) (w : World) (h1 : -1000000000 ≤ p.1 ∧ p.1 ≤ 1000000000) (h2 : -1000000000 ≤ p.2 ∧ p.2 ≤ 1000000000) (h3 : -1000000000 ≤ q.1 ∧ q.1 ≤ 1000000000) (h4 : -1000000000 ≤ q.2 ∧ q.2 ≤ 1000000000) :
    Calls Tryz.prog 21 #[.agg #[.int .i64 p.1, .int .i64 p.2], .agg #[.int .i64 q.1, .int .i64 q.2]] w fun e w' => e = .returned (.int .i64 (cmpQ p q)) ∧ Below w.heap.size w w' := by
  obtain ⟨a, b⟩ := p
  obtain ⟨c, d⟩ := q
  dsimp only at h1 h2 h3 h4 ⊢
  obtain ⟨m1, m2⟩ := mul_bd (A := 1000000000) (B := 1000000000) h1.1 h1.2 h4.1 h4.2
  obtain ⟨m3, m4⟩ := mul_bd (A := 1000000000) (B := 1000000000) h3.1 h3.2 h2.1 h2.2
  have HC : Hid (cmpQ (a, b) (c, d) = (a * d - c * b).sign) := Lib.hid rfl
  obtain ⟨x, hx⟩ : ∃ x, a * d = x := ⟨_, rfl⟩
  obtain ⟨y, hy⟩ : ∃ y, c * b = y := ⟨_, rfl⟩
  obtain ⟨r, hr⟩ : ∃ r, cmpQ (a, b) (c, d) = r := ⟨_, rfl⟩
  rw [hr, hx, hy] at HC
  rw [hr]
  have HX := Lib.hid hx
  have HY := Lib.hid hy
  have hc : x < y ∨ (¬ x < y ∧ y < x) ∨ (¬ x < y ∧ ¬ y < x) := by omega
  clear hr h1 h2 h3 h4
  rcases hc with g | ⟨g, g'⟩ | ⟨g, g'⟩
  all_goals
    have HG := Lib.hid g
    try have HG' := Lib.hid g'
    go_enter Tryz.func21, Tryz.ntmps21
    go_wp2_with fail
    obtain ⟨W, hW⟩ : ∃ W, (w.alloc (.cells #[.int .i64 a, .int .i64 b] 28)).alloc (.cells #[.int .i64 c, .int .i64 d] 28) = W := ⟨_, rfl⟩
    rw [hW]
    have K1 : Hid (Blk W w.heap.size #[.int .i64 a, .int .i64 b]) := by subst hW; exact Lib.hid ((Blk.new _ _ _).alloc _)
    have K2 : Hid (Blk W (w.heap.size + 1) #[.int .i64 c, .int .i64 d]) := by subst hW; exact Lib.hid (Blk.newAt _ _ _ (by simp))
    have HB : Hid (Below w.heap.size w W) := by subst hW; exact Lib.hid (bAlloc (bAlloc (bSelf w) _) _)
    clear hW
    refine wp_region_quiet_all (fun w' => Below (World.heap W).size (W) w') (by kernel_rfl) (by kernel_rfl) (Below.refl _ _).drew ?_
    refine WQ.out ?_
    repeat (first | (refine WQ_no (by rfl) ?_; (simp only [Act.put, List.setIfInBounds_toArray, List.set_cons_zero, List.set_cons_succ])) | (refine WQ_yes (by rfl) ?_; apply Exists.intro; refine ⟨fun w1 hb1 => ?_, ?_⟩; (focus (((obtain ⟨-, k1, -⟩ := K1.out.to hb1; obtain ⟨-, k2, -⟩ := K2.out.to hb1; have hx := HX.out; have hy := HY.out); have hb1 := Lib.hid hb1; go_simp); (try (go_bits; try go_simp)); (try (rw [if_pos (by omega)]; try go_simp)); (first | done | (fail) | (with_reducible rfl) | exact rfl))); (simp only [Act.put, List.setIfInBounds_toArray, List.set_cons_zero, List.set_cons_succ])))
    refine WQ_nil ?_
    intro w1 hb1
    go_wp2_with fail
    go_ret
    exact ⟨ret_int (by
      rw [HC.out]
      have := HG.out
      first | (rw [Int.sign_eq_neg_one_of_neg (by omega)]) | (have := HG'.out; rw [Int.sign_eq_one_of_pos (by omega)]) | (have := HG'.out; rw [show x - y = 0 by omega]; rfl)), bThen HB.out hb1⟩

/-- A small fraction out of one of any size. -/
theorem RatioFrac_any (q : Int × Int) (a1 a2 : Option Addr) (v : Value) (w : World) (hs : SmF q) (hr : RR w a1 a2 v q) :
    Calls Tryz.prog 63 #[v] w fun e w' => e = .returned (.tuple #[.agg #[.int .i64 q.1, .int .i64 q.2], .bool true]) ∧ Below w.heap.size w w' := by
  obtain ⟨s1, n1, c1, s2, n2, c2, rfl, h1, h2⟩ := hr
  have HW1 := Lib.hid (fun W (hb : Below w.heap.size w W) => WideInt_any q.1 a1 _ W (by have := hs.n0; omega) (by have := hs.n1; omega) (h1.to hb))
  have HW2 := Lib.hid (fun W (hb : Below w.heap.size w W) => WideInt_any q.2 a2 _ W (by have := hs.d0; omega) (by have := hs.d1; omega) (h2.to hb))
  have HS := Lib.hid (fun W => IsSmall_yes q W hs)
  obtain ⟨p1, p2⟩ := q
  dsimp only at HW1 HW2 HS ⊢
  clear h1 h2 hs
  go_enter Tryz.func63, Tryz.ntmps63
  go_wp2_with fail
  obtain ⟨W, hW⟩ : ∃ W, (w.alloc (.cells #[.int .i64 s1, .slice a1 n1 c1, .int .i64 s2, .slice a2 n2 c2] 112)).alloc (.cells #[.int .i64 0, .int .i64 0] 28) = W := ⟨_, rfl⟩
  rw [hW]
  have K1 : Hid (Blk W w.heap.size #[.int .i64 s1, .slice a1 n1 c1, .int .i64 s2, .slice a2 n2 c2]) := by subst hW; exact Lib.hid ((Blk.new _ _ _).alloc _)
  have K2 : Hid (Blk W (w.heap.size + 1) #[.int .i64 0, .int .i64 0]) := by subst hW; exact Lib.hid (Blk.newAt _ _ _ (by simp))
  have HB : Hid (Below w.heap.size w W) := by subst hW; exact Lib.hid (bAlloc (bAlloc (bSelf w) _) _)
  clear hW
  obtain ⟨-, k1, -⟩ := K1.out
  go_wp2_with fail
  refine (HW1.out _ HB.out).mono ?_
  rintro e w1 ⟨rfl, hb⟩
  replace K1 := Lib.hid (K1.out.to hb)
  replace K2 := Lib.hid (K2.out.to hb)
  replace HB := Lib.hid (bThen HB.out hb)
  clear hb k1
  obtain ⟨-, k1, -⟩ := K1.out
  go_wp2_with fail
  refine (HW2.out _ HB.out).mono ?_
  rintro e w2 ⟨rfl, hb⟩
  replace K2 := Lib.hid (K2.out.to hb)
  replace HB := Lib.hid (bThen HB.out hb)
  clear hb k1 K1
  go_wp2_with fail
  refine (HS.out _).mono ?_
  rintro e w3 ⟨rfl, hb⟩
  have K8 := Lib.hid ((Blk.new w2 #[.int .i64 p1, .int .i64 p2] 28).to hb)
  replace K2 := Lib.hid ((K2.out.alloc _).to hb)
  replace HB := Lib.hid (bThen (bAlloc HB.out _) hb)
  clear hb
  obtain ⟨-, k8, -⟩ := K8.out
  obtain ⟨-, k2, f2⟩ := K2.out
  go_wp2_with fail
  have F := (K2.out.set 0 (.int .i64 p1)).set 1 (.int .i64 p2)
  have F0 := F.2.1 0
  have F1 := F.2.1 1
  clear F k2 f2 k8
  refine bodyPost_ret (v := .tuple #[.agg #[.int .i64 p1, .int .i64 p2], .bool true]) ?_ rfl ⟨rfl, ?_⟩
  · simp [results, Tryz.results63, go_sem, F0, F1]
  · exact (HB.out.setCell (p := ⟨w.heap.size + 1, 0, none⟩) (by simp) _).setCell (p := ⟨w.heap.size + 1, 1, none⟩) (by simp) _

end Go.Proofs.YtjfedpblkejmkaaGreat

