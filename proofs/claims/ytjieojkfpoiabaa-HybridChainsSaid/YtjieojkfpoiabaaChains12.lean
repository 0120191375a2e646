/-
  Texts of this claim, in their build order: C4 C5.
-/
import Derived.Test.YtjieojkfpoiabaaChains11

/-
  The reference's error of energy.
-/
namespace Go.Proofs.Ytjieojkfpoiabaa
open Go.RowKit

def rErr (x : HT) (st : List Int) (nv : Int) : Int := x.s * (cmdV x st x.dl.toNat - gi st 0) * (nv - gi st 1)
def rWide (off : Int) (st : List Int) (nv : Int) : Int := off * sizeI (nv - gi st 1)
def errR (x : HT) (off : Int) : List Int → Int → Int → List Int → Int × Int
  | _, lo, hi, [] => (lo, hi)
  | st, lo, hi, f :: zs =>
    if inB x (nextV x st f) then errR x off (nextR st (nextV x st f)) (lo + rErr x st (nextV x st f) - rWide off st (nextV x st f)) (hi + rErr x st (nextV x st f) + rWide off st (nextV x st f)) zs
    else (lo + rErr x st (nextV x st f) - rWide off st (nextV x st f), hi + rErr x st (nextV x st f) + rWide off st (nextV x st f))

theorem errR_step {x : HT} {off : Int} {st zs : List Int} {lo hi : Int} {k : Nat} {nv : Int} (hk : k < zs.length) (hn : nextV x st (gi zs k) = nv) (hb : inB x nv = true) :
    errR x off st lo hi (zs.drop k) = errR x off (nextR st nv) (lo + rErr x st nv - rWide off st nv) (hi + rErr x st nv + rWide off st nv) (zs.drop (k + 1)) := by
  rw [gi_drop zs k hk]
  simp only [errR, hn, hb, if_true]
theorem errR_stop {x : HT} {off : Int} {st zs : List Int} {lo hi : Int} {k : Nat} {nv : Int} (hk : k < zs.length) (hn : nextV x st (gi zs k) = nv) (hb : inB x nv = false) :
    errR x off st lo hi (zs.drop k) = (lo + rErr x st nv - rWide off st nv, hi + rErr x st nv + rWide off st nv) := by
  rw [gi_drop zs k hk]
  simp [errR, hn, hb]

theorem rnextV_bd (x : HT) (st : List Int) (f : Int) (hx : x.ok) (hs : RSt x st) (hf1 : -1000 ≤ f) (hf2 : f ≤ 1000) : -200000 ≤ nextV x st f ∧ nextV x st f ≤ 200000 := by
  have hc := cmdV_rbd x st hx hs
  have b0 := hs.bd 0
  have b1 := hs.bd 1
  have h1 := mul_bd (a := x.d) (b := gi st 0 - gi st 1) (A := 1000) (B := 6) (by have := hx.d1; omega) hx.d2 (by omega) (by omega)
  have h2 := mul_bd (a := x.c) (b := gi st 0) (A := 1000) (B := 3) (by have := hx.c1; omega) hx.c2 (by omega) (by omega)
  have h3 := mul_bd (a := x.s) (b := cmdV x st x.dl.toNat) (A := 1000) (B := 15) (by have := hx.s1; omega) hx.s2 (by omega) (by omega)
  have h4 : -100000 ≤ pushV x st f ∧ pushV x st f ≤ 100000 := by unfold pushV; omega
  have h5 := ediv_bd (pushV x st f) x.m 100000 (by have := hx.m1; omega) (by omega) h4.1 h4.2
  unfold nextV
  omega

/-- What stands at the head of a round. -/
structure ErrSt (x : HT) (off : Int) (zs : List Int) (a : Option Addr) (w : World) (k : Nat) (sa : Option Addr) (c : Nat) (st : List Int) (lo hi : Int) (wr : World) : Prop where
  hk : k ≤ zs.length
  hc : st.length ≤ c
  hst : RSt x st
  rs : Reads wr sa st.length (ints st)
  all : errR x off (beg x) 0 0 zs = errR x off st lo hi (zs.drop k)
  bd : (-(k * 5000000000) ≤ lo ∧ lo ≤ k * 5000000000) ∧ -(k * 5000000000) ≤ hi ∧ hi ≤ k * 5000000000
  k0 : Blk wr w.heap.size x.cells
  k1 : Blk wr (w.heap.size + 1) #[.int .i64 0, .int .i64 0]
  k2 : Blk wr (w.heap.size + 2) #[.int .i64 lo, .int .i64 hi]
  bel : Below w.heap.size w wr
  fr : ∀ p, sa = some p → w.heap.size + 3 ≤ p.block

set_option maxHeartbeats 1600000 in
set_option maxRecDepth 100000 in
theorem ErrorIn_any (x : HT) (zs : List Int) (a : Option Addr) (cap : Nat) (off : Int) (w : World) (hx : x.ok) (hfew : zs.length ≤ 60) (hz : ∀ k, k < zs.length → -1000 ≤ gi zs k ∧ gi zs k ≤ 1000) (ho1 : 0 ≤ off) (ho2 : off ≤ 1000) (hr : Reads w a zs.length (ints zs)) :
    Calls Try.prog 19 #[.agg x.cells, .slice a zs.length cap, .int .i64 off] w fun e w' => e = .returned (.agg #[.int .i64 (errR x off (beg x) 0 0 zs).1, .int .i64 (errR x off (beg x) 0 0 zs).2]) ∧ Below w.heap.size w w' := by
  have HZ := Lib.hid hz
  have HR := Lib.hid hr
  have hs1 := hx.s1
  have hs2 := hx.s2
  clear hz hr
  go_enter Try.func19, Try.ntmps19
  go_wp2_with fail
  obtain ⟨W, hW⟩ : ∃ W, ((w.alloc (.cells x.cells 25)).alloc (.cells #[.int .i64 0, .int .i64 0] 23)).alloc (.cells #[.int .i64 0, .int .i64 0] 23) = W := ⟨_, rfl⟩
  rw [hW]
  have hB1 : w.heap.size + 3 = W.heap.size := by subst hW; simp
  have K0 : Hid (Blk W w.heap.size x.cells) := by subst hW; exact ((Blk.new _ _ _).alloc _).alloc _
  have K1 : Hid (Blk W (w.heap.size + 1) #[.int .i64 0, .int .i64 0]) := by subst hW; exact (Blk.newAt _ _ _ (by simp)).alloc _
  have K2 : Hid (Blk W (w.heap.size + 2) #[.int .i64 0, .int .i64 0]) := by subst hW; exact Blk.newAt _ _ _ (by simp)
  have HB : Hid (Below w.heap.size w W) := by subst hW; exact bAlloc (bAlloc (bAlloc (bSelf w) _) _) _
  clear hW
  obtain ⟨-, k0, -⟩ := K0.out
  go_wp2_with fail
  refine (Begin_any x _ hx).mono ?_
  rintro e w' ⟨a0, c0, rfl, hc0, hr0, hb0, hf0⟩
  have HS : Hid (ErrSt x off zs a w 0 a0 c0 (beg x) 0 0 w') :=
    Lib.hid ⟨Nat.zero_le _, hc0, beg_st hx, hr0, rfl, by omega, K0.out.to hb0, K1.out.to hb0, K2.out.to hb0, bThen HB.out hb0, fun p hp => by have := hf0 p hp; omega⟩
  clear hb0 hr0 HB K0 K1 K2 k0 hB1 hf0
  go_wp2_with fail
  go_loopw [8, 9, 10, 11, 12, 13] (fun s i _ _ _ _ wr => ∃ (k c : Nat) (st : List Int) (sa : Option Addr) (lo hi : Int), i = .int .i64 k ∧ s = .slice sa st.length c ∧ Hid (ErrSt x off zs a w k sa c st lo hi wr)) (fun _ i _ _ _ _ _ => zs.length - (intOf i).toNat)
  case atStart => exact ⟨0, c0, _, a0, 0, 0, rfl, rfl, HS⟩
  case round =>
    obtain ⟨k, c, st, sa, lo, hi, rfl, rfl, HI⟩ := hrel
    have hkk : k ≤ zs.length := HI.out.hk
    by_cases hlt : k < zs.length
    · obtain ⟨b, aoff, rfl, hb, hc⟩ := (HR.out.to HI.out.bel).at hlt
      have k1 : Hid (wr.cell? ⟨b, aoff + k, none⟩ = some (.int .i64 (gi zs k))) := Lib.hid (hc k hlt)
      have K0 := Lib.hid HI.out.k0
      clear hc
      have hf := HZ.out k hlt
      obtain ⟨hf1, hf2⟩ := hf
      have hst2 : 2 ≤ st.length := by have := HI.out.hst.len; have := hx.dl1; omega
      have hnb := rnextV_bd x st (gi zs k) hx HI.out.hst hf1 hf2
      obtain ⟨nv, hnv⟩ : ∃ nv, nextV x st (gi zs k) = nv := ⟨_, rfl⟩
      rw [hnv] at hnb
      have HNV := Lib.hid hnv
      obtain ⟨hn1, hn2⟩ := hnb
      clear hnv
      have HC := Lib.hid (cmdV_rbd x st hx HI.out.hst)
      have hlh := HI.out.bd
      obtain ⟨⟨l1, l2⟩, l3, l4⟩ := hlh
      cases hin : inB x nv
      all_goals
        have HIN := Lib.hid hin
        go_wp2_with fail
        refine wp_region_quiet_call 6 (fun w' => Below (World.heap wr).size (wr) w') (by kernel_rfl) (by kernel_rfl) rfl (Below.refl _ _).drew ?_
        simp only [List.take_succ_cons, List.take_zero, List.drop_succ_cons, List.drop_zero]
        repeat (first | (refine wpQuiet_no (by rfl) ?_; (simp only [Act.put, List.setIfInBounds_toArray, List.set_cons_zero, List.set_cons_succ])) | (refine wpQuiet_yes (by rfl) ?_; apply Exists.intro; refine ⟨fun w1 hb1 => ?_, ?_⟩; (focus (((obtain ⟨-, k0, -⟩ := K0.out.to hb1; have k2 := (hb1.cell (p := ⟨b, aoff + k, none⟩) hb).trans k1.out); have hb1 := Lib.hid hb1; go_simp); (try (go_bits; try go_simp)); (try (rw [if_pos (by omega)]; try go_simp)); (first | done | (fail) | (with_reducible rfl) | exact rfl))); (simp only [Act.put, List.setIfInBounds_toArray, List.set_cons_zero, List.set_cons_succ])))
        refine wpQuiet_nil ?_
        intro w1 hb1
        go_wp2_with fail
        refine (rNext_any x st sa c (gi zs k) _ hx HI.out.hst (HI.out.rs.to hb1) HI.out.hc hf1 hf2).mono ?_
        rintro e w2 ⟨a', cap', rfl, hcp, hrd, hbb, hfr⟩
        have HRD := Lib.hid hrd
        have HFR := Lib.hid hfr
        rw [HNV.out] at HRD ⊢
        rw [HIN.out]
        have hb2 := Lib.hid (bThen hb1 hbb)
        have hsz1 : wr.heap.size ≤ w1.heap.size := hb1.size
        clear hrd hbb hb1 hfr
        go_wp2_with fail
        refine ⟨fun w' => Below w2.heap.size w2 w', Below.refl _ _, ?_⟩
        repeat (first | (refine wpQuiet_no (by rfl) ?_; (simp only [Act.put, List.setIfInBounds_toArray, List.set_cons_zero, List.set_cons_succ])) | (refine wpQuiet_yes (by rfl) ?_; apply Exists.intro; refine ⟨fun w1 hb1 => ?_, ?_⟩; (focus ((skip; have hb1 := Lib.hid hb1; go_simp); (try (go_bits; try go_simp)); (try (rw [if_pos (by omega)]; try go_simp)); (first | done | (fail) | (with_reducible rfl) | exact rfl))); (simp only [Act.put, List.setIfInBounds_toArray, List.set_cons_zero, List.set_cons_succ])))
        refine wpQuiet_nil ?_
        intro w1 hb1
        replace hb2 := Lib.hid (bThen hb2.out hb1)
        replace HRD := Lib.hid (HRD.out.to hb1)
        clear hb1
        have HRS := Lib.hid (HI.out.rs.to hb2.out)
        obtain ⟨b', off', rfl, hb', hc'⟩ := HRD.out.at (k := 0) (by omega)
        have k3 : Hid (w1.cell? ⟨b', off', none⟩ = some (.int .i64 nv)) := Lib.hid (hc' 0 (by omega))
        clear hc'
        obtain ⟨b3, off3, rfl, hb3, hc3⟩ := HRS.out.at (k := 1) (by omega)
        have k4 : Hid (w1.cell? ⟨b3, off3, none⟩ = some (.int .i64 (gi st 0))) := Lib.hid (hc3 0 (by omega))
        have k5 : Hid (w1.cell? ⟨b3, off3 + 1, none⟩ = some (.int .i64 (gi st 1))) := Lib.hid (hc3 1 (by omega))
        clear hc3
        have h0b := HI.out.hst.bd 0
        have h1b := HI.out.hst.bd 1
        obtain ⟨h01, h02⟩ := h0b
        obtain ⟨h11, h12⟩ := h1b
        have g1 : 0 < st.length := by omega
        have g2 : 1 < st.length := by omega
        go_wp2_with fail
        refine wp_region_quiet_all (fun w' => Below (World.heap w1).size (w1) w') (by kernel_rfl) (by kernel_rfl) (Below.refl _ _).drew ?_
        repeat (first | (refine wpQuiet_no (by rfl) ?_; (simp only [Act.put, List.setIfInBounds_toArray, List.set_cons_zero, List.set_cons_succ])) | (refine wpQuiet_yes (by rfl) ?_; apply Exists.intro; refine ⟨fun w1 hb1 => ?_, ?_⟩; (focus (((have m3 := (hb1.cell (p := ⟨b', off', none⟩) hb').trans k3.out; have m5 := (hb1.cell (p := ⟨b3, off3 + 1, none⟩) hb3).trans k5.out); have hb1 := Lib.hid hb1; go_simp); (try (go_bits; try go_simp)); (try (rw [if_pos (by omega)]; try go_simp)); (first | done | (fail) | (with_reducible rfl) | exact rfl))); (simp only [Act.put, List.setIfInBounds_toArray, List.set_cons_zero, List.set_cons_succ])))
        refine wpQuiet_nil ?_
        intro w1 hb1
        obtain ⟨wy, hwy⟩ : ∃ wy, nv - gi st 1 = wy := ⟨_, rfl⟩
        have hwb : -200003 ≤ wy ∧ wy ≤ 200003 := by omega
        obtain ⟨hw1, hw2⟩ := hwb
        rw [hwy]
        have HWY := Lib.hid hwy
        clear hwy
        have hcb := HC.out
        obtain ⟨hc1, hc2⟩ := hcb
        have hp1 := mul_bd (a := x.s) (b := cmdV x st x.dl.toNat - gi st 0) (A := 1000) (B := 18) (by omega) hs2 (by omega) (by omega)
        have hp2 := mul_bd (a := x.s * (cmdV x st x.dl.toNat - gi st 0)) (b := wy) (A := 18000) (B := 200003) (by omega) (by omega) hw1 hw2
        have hsz := sizeI_bd hw1 hw2
        have hp3 := mul_bd (a := off) (b := sizeI wy) (A := 1000) (B := 200003) (by omega) ho2 (by omega) hsz.2
        obtain ⟨p1, p2⟩ := hp1
        obtain ⟨p3, p4⟩ := hp2
        obtain ⟨p5, p6⟩ := hp3
        clear hsz
        replace hb2 := Lib.hid (bThen hb2.out hb1)
        replace HRD := Lib.hid (HRD.out.to hb1)
        replace HRS := Lib.hid (HRS.out.to hb1)
        replace k4 := Lib.hid ((hb1.cell (p := ⟨b3, off3, none⟩) hb3).trans k4.out)
        replace hb3 := Nat.lt_of_lt_of_le hb3 hb1.size
        replace K0 := Lib.hid (HI.out.k0.to hb2.out)
        have K2 : Hid (Blk w1 (w.heap.size + 1 + 1) #[.int .i64 lo, .int .i64 hi]) := Lib.hid (HI.out.k2.to hb2.out)
        clear hb1 k3 k5 hb'
        go_wp2_with fail
        refine wp_region_quiet_all (fun w' => Below (World.heap w1).size (w1) w') (by kernel_rfl) (by kernel_rfl) (Below.refl _ _).drew ?_
        repeat (first | (refine wpQuiet_no (by rfl) ?_; (simp only [Act.put, List.setIfInBounds_toArray, List.set_cons_zero, List.set_cons_succ])) | (refine wpQuiet_yes (by rfl) ?_; apply Exists.intro; refine ⟨fun w1 hb1 => ?_, ?_⟩; (focus (((obtain ⟨-, m0, -⟩ := K0.out.to hb1; have m4 := (hb1.cell (p := ⟨b3, off3, none⟩) hb3).trans k4.out); have hb1 := Lib.hid hb1; go_simp); (try (go_bits; try go_simp)); (try (rw [if_pos (by omega)]; try go_simp)); (first | done | (((go_at_call 45); refine (rActuators_any x st _ c _ hx HI.out.hst (HRS.out.to hb1.out)).mono ?_; rintro e w' ⟨rfl, hb⟩; exact ⟨rfl, bThen hb1.out hb⟩)) | (with_reducible rfl) | exact rfl))); (simp only [Act.put, List.setIfInBounds_toArray, List.set_cons_zero, List.set_cons_succ])))
        refine wpQuiet_nil ?_
        intro w1 hb1
        obtain ⟨en, hen⟩ : ∃ en, x.s * (cmdV x st x.dl.toNat - gi st 0) * wy = en := ⟨_, rfl⟩
        rw [hen] at p3 p4 ⊢
        have HEN := Lib.hid hen
        clear hen
        replace hb2 := Lib.hid (bThen hb2.out hb1)
        replace HRD := Lib.hid (HRD.out.to hb1)
        replace K2 := Lib.hid (K2.out.to hb1)
        clear hb1 k4 hb3 HRS K0 p1 p2
        obtain ⟨wd, hwd⟩ : ∃ wd, off * sizeI wy = wd := ⟨_, rfl⟩
        rw [hwd] at p5 p6
        go_wp2_with fail
        refine wp_region_quiet_tail 19 (fun w' => Below (World.heap w1).size (w1) w') (by kernel_rfl) (by kernel_rfl) (Below.refl _ _).drew ?_
        simp only [List.take_succ_cons, List.take_zero, List.drop_succ_cons, List.drop_zero]
        repeat (first | (refine wpQuiet_no (by rfl) ?_; (simp only [Act.put, List.setIfInBounds_toArray, List.set_cons_zero, List.set_cons_succ])) | (refine wpQuiet_yes (by rfl) ?_; apply Exists.intro; refine ⟨fun w1 hb1 => ?_, ?_⟩; (focus (((obtain ⟨-, m2, -⟩ := K2.out.to hb1); have hb1 := Lib.hid hb1; go_simp); (try (go_bits; try go_simp)); (try (rw [if_pos (by omega)]; try go_simp)); (first | done | (((go_at_call 21); refine (Size_any _ _ (by omega) (by omega)).mono ?_; rintro e w' ⟨rfl, rfl⟩; exact ⟨by first | rfl | (rw [hwd]; rfl), hb1.out⟩)) | (with_reducible rfl) | exact rfl))); (simp only [Act.put, List.setIfInBounds_toArray, List.set_cons_zero, List.set_cons_succ])))
        refine wpQuiet_nil ?_
        intro w1 hb1
        replace K2 := Lib.hid (K2.out.to hb1)
        have K1 : Hid (Blk w1 (w.heap.size + 1) #[.int .i64 0, .int .i64 0]) := Lib.hid (HI.out.k1.to (bThen hb2.out hb1))
        replace HRD := Lib.hid (HRD.out.to hb1)
        replace K0 : Hid (Blk w1 w.heap.size x.cells) := Lib.hid (HI.out.k0.to (bThen hb2.out hb1))
        have HB5 : Hid (Below w.heap.size w w1) := Lib.hid (HI.out.bel.trans ((bThen hb2.out hb1).mono (by have := HI.out.k0.1; omega)))
        obtain ⟨-, m2, mf2⟩ := K2.out
        obtain ⟨-, m1, mf1⟩ := K1.out
        have hfz := Nat.le_trans (HI.out.k0.1) hsz1
        clear hb1
        go_wp2_with fail
        have HRE : Hid (rErr x st nv = en) := Lib.hid (by unfold rErr; rw [HWY.out]; exact HEN.out)
        have HRW : Hid (rWide off st nv = wd) := Lib.hid (by unfold rWide; rw [HWY.out]; exact hwd)
        clear m1 m2 mf1 mf2
      · have F := (((K1.out.other (p := ⟨w.heap.size + 1 + 1, 0, none⟩) (by dsimp only; omega) (.int .i64 (lo + en - wd))).other (p := ⟨w.heap.size + 1 + 1, 1, none⟩) (by dsimp only; omega) (.int .i64 (hi + en + wd))).set 0 (.int .i64 (lo + en - wd))).set 1 (.int .i64 (hi + en + wd))
        have F0 := F.2.1 0
        have F1 := F.2.1 1
        clear F
        have hall := HI.out.all
        rw [errR_stop hlt HNV.out HIN.out, HRE.out, HRW.out] at hall
        rw [hall]
        refine bodyPost_ret (v := .agg #[.int .i64 (lo + en - wd), .int .i64 (hi + en + wd)]) ?_ rfl ⟨rfl, ?_⟩
        · simp [results, Try.results19, go_sem, F0, F1]
        · exact (((HB5.out.setCell (p := ⟨w.heap.size + 1 + 1, 0, none⟩) (by dsimp only; omega) _).setCell (p := ⟨w.heap.size + 1 + 1, 1, none⟩) (by dsimp only; omega) _).setCell (p := ⟨w.heap.size + 1, 0, none⟩) (by dsimp only; omega) _).setCell (p := ⟨w.heap.size + 1, 1, none⟩) (by dsimp only; omega) _
      · have hb3 : w.heap.size + 2 < b' := by
          have h1 := HFR.out _ rfl
          have h2 := HI.out.k2.1
          dsimp only at h1
          omega
        go_roundw
        case rel =>
          refine ⟨k + 1, cap', nextR st nv, some ⟨b', off', none⟩, lo + en - wd, hi + en + wd, by go_num, by rw [nextR_len nv (by omega)], Lib.hid ⟨by omega, by rw [nextR_len nv (by omega)]; exact hcp, nextR_st hx HI.out.hst hin, ?_, ?_, ⟨⟨by omega, by omega⟩, by omega, by omega⟩, ?_, ?_, ?_, ?_, fun p hp => by cases hp; exact hb3⟩⟩
          · rw [nextR_len nv (by omega)]
            exact (HRD.out.other ⟨w.heap.size + 1 + 1, 0, none⟩ _ (fun b o hq => by cases hq; dsimp only; omega)).other ⟨w.heap.size + 1 + 1, 1, none⟩ _ (fun b o hq => by cases hq; dsimp only; omega)
          · rw [HI.out.all, errR_step hlt HNV.out HIN.out, HRE.out, HRW.out]
          · exact (K0.out.other (p := ⟨w.heap.size + 1 + 1, 0, none⟩) (by dsimp only; omega) _).other (p := ⟨w.heap.size + 1 + 1, 1, none⟩) (by dsimp only; omega) _
          · exact (K1.out.other (p := ⟨w.heap.size + 1 + 1, 0, none⟩) (by dsimp only; omega) _).other (p := ⟨w.heap.size + 1 + 1, 1, none⟩) (by dsimp only; omega) _
          · exact (K2.out.set 0 _).set 1 _
          · exact (HB5.out.setCell (p := ⟨w.heap.size + 1 + 1, 0, none⟩) (by dsimp only; omega) _).setCell (p := ⟨w.heap.size + 1 + 1, 1, none⟩) (by dsimp only; omega) _
        case measure => simp [intOf]; omega
    · have : k = zs.length := by omega
      subst this
      have K1 := Lib.hid HI.out.k1
      have K2 : Hid (Blk wr (w.heap.size + 1 + 1) #[.int .i64 lo, .int .i64 hi]) := Lib.hid HI.out.k2
      obtain ⟨-, m2, mf2⟩ := K2.out
      obtain ⟨-, m1, mf1⟩ := K1.out
      go_wp2_with fail
      have F := (K1.out.set 0 (.int .i64 lo)).set 1 (.int .i64 hi)
      have F0 := F.2.1 0
      have F1 := F.2.1 1
      clear F m1 mf1 m2 mf2
      have hall := HI.out.all
      rw [List.drop_length] at hall
      rw [hall]
      refine bodyPost_ret (v := .agg #[.int .i64 lo, .int .i64 hi]) ?_ rfl ⟨rfl, ?_⟩
      · simp [results, Try.results19, go_sem, F0, F1]
      · exact (HI.out.bel.setCell (p := ⟨w.heap.size + 1, 0, none⟩) (by dsimp only; omega) _).setCell (p := ⟨w.heap.size + 1, 1, none⟩) (by dsimp only; omega) _

end Go.Proofs.Ytjieojkfpoiabaa

/-
  The plain law: what package hybrid computes over states of four numbers is what the reference computes over its own.
-/
namespace Go.Proofs.Ytjieojkfpoiabaa
open Go.RowKit

/-- A state of four numbers, and the reference's. -/
structure Rel (x : HT) (a st : List Int) : Prop where
  len : (st.length : Int) = x.dl + 2
  eq : ∀ i, i < st.length → gi a i = gi st i

theorem Rel.cmd {x : HT} {a st : List Int} (h : Rel x a st) (hx : x.ok) : cmdV x a x.dl.toNat = cmdV x st x.dl.toNat := by
  have h0 := hx.dl1
  have h1 := h.len
  unfold cmdV
  rw [h.eq x.dl.toNat (by omega), h.eq (x.dl.toNat + 1) (by omega)]
theorem Rel.nextV {x : HT} {a st : List Int} (h : Rel x a st) (hx : x.ok) (f : Int) : Go.Proofs.Ytjieojkfpoiabaa.nextV x a f = Go.Proofs.Ytjieojkfpoiabaa.nextV x st f := by
  have h0 := hx.dl1
  have h1 := h.len
  unfold Go.Proofs.Ytjieojkfpoiabaa.nextV pushV
  rw [h.cmd hx, h.eq 0 (by omega), h.eq 1 (by omega)]
theorem Rel.next {x : HT} {a st : List Int} (h : Rel x a st) (hx : x.ok) (n : Int) : Rel x (nextL x a n) (nextR st n) := by
  have h0 := hx.dl1
  have h1 := h.len
  have h2 := hx.dl2
  have hl := nextR_len (st := st) n (by omega)
  refine ⟨by rw [hl]; exact h1, fun i hi => ?_⟩
  rw [hl] at hi
  rcases i with _ | _ | _ | _ | i
  · rfl
  · rw [gi_nextR1 st n 0 hi, ← h.eq 0 (by omega)]; rfl
  · rw [gi_nextR1 st n 1 hi, ← h.eq 1 (by omega)]
    show kp x 1 (gi a 1) = _
    unfold kp; rw [if_pos (by omega)]
  · rw [gi_nextR1 st n 2 hi, ← h.eq 2 (by omega)]
    show kp x 2 (gi a 2) = _
    unfold kp; rw [if_pos (by omega)]
  · omega
theorem Rel.beg {x : HT} (hx : x.ok) : Rel x [0, 0, 0, 0] (Go.Proofs.Ytjieojkfpoiabaa.beg x) := by
  have h0 := hx.dl1
  have h2 := hx.dl2
  refine ⟨(beg_st hx).len, fun i hi => ?_⟩
  unfold Go.Proofs.Ytjieojkfpoiabaa.beg
  rw [gi_rep]
  have : i < 4 := by have := (beg_st hx).len; omega
  rcases i with _ | _ | _ | _ | i
  all_goals first | rfl | omega

theorem run_eq (x : HT) (hx : x.ok) : ∀ (zs a st : List Int), Rel x a st → (stepsL x a zs).map (fun s => gi s.2 0) = runR x st zs
  | [], _, _, _ => rfl
  | f :: zs, a, st, h => by
    simp only [stepsL, runR, List.map_cons, h.nextV hx f]
    congr 1
    cases hb : inB x (nextV x st f) with
    | false => rfl
    | true => simpa using run_eq x hx zs _ _ (h.next hx _)
theorem runL_eq (x : HT) (hx : x.ok) (zs : List Int) : runL x zs = 0 :: runR x (beg x) zs := by
  unfold runL; rw [run_eq x hx zs _ _ (Rel.beg hx)]

theorem sumE_cons (f : List Int × List Int → Int) (s : List Int × List Int) (l : List (List Int × List Int)) : sumE f (s :: l) = f s + sumE f l := by simp [sumE]
theorem err_eq (x : HT) (off : Int) (hx : x.ok) : ∀ (zs a st : List Int) (lo hi : Int), Rel x a st →
    errR x off st lo hi zs = (lo + (sumE (stepErr x) (stepsL x a zs) - sumE (stepWide off) (stepsL x a zs)), hi + (sumE (stepErr x) (stepsL x a zs) + sumE (stepWide off) (stepsL x a zs)))
  | [], _, _, lo, hi, _ => by simp [errR, stepsL, sumE]
  | f :: zs, a, st, lo, hi, h => by
    have hl := h.len
    have h0 := hx.dl1
    have e0 : gi a 0 = gi st 0 := h.eq 0 (by omega)
    have e1 : gi a 1 = gi st 1 := h.eq 1 (by omega)
    have es : stepErr x (a, nextL x a (nextV x st f)) = rErr x st (nextV x st f) := by
      show x.s * (cmdV x a x.dl.toNat - gi a 0) * (nextV x st f - gi a 1) = x.s * (cmdV x st x.dl.toNat - gi st 0) * (nextV x st f - gi st 1)
      rw [h.cmd hx, e0, e1]
    have ew : stepWide off (a, nextL x a (nextV x st f)) = rWide off st (nextV x st f) := by
      show off * sizeI (nextV x st f - gi a 1) = off * sizeI (nextV x st f - gi st 1)
      rw [e1]
    simp only [stepsL, errR, h.nextV hx f, sumE_cons, es, ew]
    cases hb : inB x (nextV x st f) with
    | false =>
      simp only [Bool.false_eq_true, if_false, sumE, List.map_nil, List.sum_nil]
      exact Prod.ext (by dsimp only; omega) (by dsimp only; omega)
    | true =>
      simp only [if_true]
      rw [err_eq x off hx zs _ _ _ _ (h.next hx _)]
      exact Prod.ext (by dsimp only; omega) (by dsimp only; omega)

end Go.Proofs.Ytjieojkfpoiabaa

