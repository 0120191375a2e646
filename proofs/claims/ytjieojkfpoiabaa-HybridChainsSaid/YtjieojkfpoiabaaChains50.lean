/-
  Texts of this claim, in their build order: Y7 Q2 Q3.
-/
import Derived.Test.YtjieojkfpoiabaaChains49
import Derived.Test.YtjieojkfpoiabaaChains37
import Derived.Test.YtjieojkfpoiabaaChains31
import Derived.Test.YtjieojkfpoiabaaChains21

/-
  The reference's HalvesErr.
-/
namespace Go.Proofs.Ytjieojkfpoiabaa
open Go.RowKit

theorem frE_3 {p : Int × Int} (h : lowB p.1 p.2 = false) : frE p = 3 := by unfold frE; rw [h]; simp [firstE, unl]
theorem frE_2 {p : Int × Int} (h : lowB p.1 p.2 = true) (h2 : ((decide (-1000000000 ≤ p.1) && decide (p.1 ≤ 1000000000)) && decide (p.2 ≤ 1000000000)) = false) : frE p = 2 := by
  unfold frE; rw [h, h2]; simp [firstE, unl]
theorem frE_0 {p : Int × Int} (h : lowB p.1 p.2 = true) (h2 : ((decide (-1000000000 ≤ p.1) && decide (p.1 ≤ 1000000000)) && decide (p.2 ≤ 1000000000)) = true) : frE p = 0 := by
  unfold frE; rw [h, h2]; simp [firstE, unl]

set_option maxHeartbeats 6400000 in
set_option maxRecDepth 100000 in
theorem HalvesErr_any (ks fs : List Int) (ls us : List (Int × Int)) (F : Int) (nd : Nat) (a1 a2 b1 b2 : Option Addr) (c1 c2 d1 d2 : Nat) (w : World) (he : ndE ks fs nd = 0) (h3 : ls.length ≤ 100) (h4 : us.length ≤ 100) (hi1 : ∀ k, k < ls.length → I64 (fg ls k)) (hi2 : ∀ k, k < us.length → I64 (fg us k))
    (hr1 : Reads w a1 ks.length (ints ks)) (hr2 : Reads w a2 fs.length (ints fs)) (hr3 : Reads w b1 (ls.length * 2) (fracs ls)) (hr4 : Reads w b2 (us.length * 2) (fracs us)) :
    Calls Try.prog 59 #[.agg (chV a1 ks.length c1 a2 fs.length c2), .int .i64 nd, .agg (hvV b1 ls.length d1 b2 us.length d2 F)] w
      fun e w' => e = .returned (.tuple #[.int .i64 (chH ks fs ls us F nd).1, .int .i64 (chH ks fs ls us F nd).2]) ∧ Below w.heap.size w w' := by
  obtain ⟨hchk, -, hndi⟩ := ndE_zero he
  have hnd : nd < ks.length := by omega
  have hok := chkC_zero hchk
  have hfew := hok.few
  have hlen := hok.len
  have HSH : Hid (shE ks fs ls.length us.length nd = unl (((ls.length : Int) == (nd : Int) + 1) && ((us.length : Int) == (ks.length : Int) - nd - 1)) 10) := Lib.hid (by unfold shE; rw [he]; simp [firstE]; exact fun h => h.symm)
  obtain ⟨r, hr⟩ : ∃ r, chH ks fs ls us F nd = r := ⟨_, rfl⟩
  have HR := Lib.hid hr
  have HOK := Lib.hid hok
  have HR1 := Lib.hid hr1
  have HR2 := Lib.hid hr2
  have HR3 := Lib.hid hr3
  have HR4 := Lib.hid hr4
  have HI64 := Lib.hid (i64_app hi1 hi2)
  have HLEN := Lib.hid hlen
  rw [hr]
  have HBAD : Hid (¬ ((ls.length : Int) = (nd : Int) + 1 ∧ (us.length : Int) = (ks.length : Int) - nd - 1) → r = (0, 10)) := Lib.hid (fun h => by
    have hb : (((ls.length : Int) == (nd : Int) + 1) && ((us.length : Int) == (ks.length : Int) - nd - 1)) = false := by
      rw [Bool.and_eq_false_iff, beq_eq_false_iff_ne, beq_eq_false_iff_ne]
      by_cases h1 : (ls.length : Int) = (nd : Int) + 1
      · exact .inr (fun h2 => h ⟨h1, h2⟩)
      · exact .inl h1
    have e := HSH.out
    rw [hb] at e
    rw [← HR.out]
    unfold chH
    rw [e]
    rfl)
  have HGOOD : Hid ((ls.length : Int) = (nd : Int) + 1 ∧ (us.length : Int) = (ks.length : Int) - nd - 1 → (if (eachR (fun k => frE (fg (ls ++ us) k)) 0 ks.length).2 ≠ 0 then eachR (fun k => frE (fg (ls ++ us) k)) 0 ks.length else
  if F ≠ (fs.drop (nd + 1)).sum then (0, 13) else eachR (nbE ks fs (ls ++ us) F nd) 0 ks.length) = r) := Lib.hid (fun ⟨h1, h2⟩ => by
    have e := HSH.out
    rw [h1, h2] at e
    simp only [beq_self_eq_true, Bool.and_self] at e
    have hln : (ls ++ us).length = ks.length := by rw [List.length_append]; omega
    rw [← HR.out]
    unfold chH
    rw [show shE ks fs ls.length us.length nd = 0 from e, hln, if_neg (fun h : (0 : Int) ≠ 0 => h rfl)]
    rfl)
  clear hr hr1 hr2 hr3 hr4 hi1 hi2 hok hchk he hndi HR HSH hlen
  go_enter Try.func59, Try.ntmps59
  go_upto_region 1 with (fail)
  obtain ⟨w3, hw3⟩ : ∃ w3, (w.alloc (.cells (chV a1 ks.length c1 a2 fs.length c2) 73)).alloc (.cells (hvV b1 ls.length d1 b2 us.length d2 F) 76) = w3 := ⟨_, rfl⟩
  rw [hw3]
  have K3 : Hid (Blk w3 w.heap.size (chV a1 ks.length c1 a2 fs.length c2)) := by subst hw3; exact Lib.hid ((Blk.new _ _ _).alloc _)
  have K5 : Hid (Blk w3 (w.heap.size + 1) (hvV b1 ls.length d1 b2 us.length d2 F)) := by subst hw3; exact Lib.hid (Blk.newAt _ _ _ (by simp))
  have HB : Hid (Below w.heap.size w w3) := by subst hw3; exact Lib.hid (bAlloc (bAlloc (bSelf w) _) _)
  clear hw3
  have hs3 : w.heap.size + 1 < w3.heap.size := K5.out.1
  by_cases hq1 : (ls.length : Int) = (nd : Int) + 1
  · by_cases hq2 : (us.length : Int) = (ks.length : Int) - nd - 1
    · have HQ := Lib.hid (HGOOD.out ⟨hq1, hq2⟩)
      have hq1' : ((ls.length : Int) != (nd : Int) + 1) = false := by rw [hq1]; simp
      have hq2' : ((us.length : Int) != (ks.length : Int) - nd - 1) = false := by rw [hq2]; simp
      have hlA : ls.length = nd + 1 := by omega
      have HLA := Lib.hid hlA
      have hlB : us.length = ks.length - (nd + 1) := by omega
      have HLB := Lib.hid hlB
      have HQQ := Lib.hid (And.intro hq1 hq2)
      clear HGOOD HBAD hq1 hq2 hlA hlB
      obtain ⟨-, k3, -⟩ := K3.out
      obtain ⟨-, k5, -⟩ := K5.out
      go_upto_region 3 with (fail)
      clear k3 k5 hq1' hq2'
      have HCO := Lib.hid (fun W (hb : Below w.heap.size w W) => CopyFracs_own ls b1 d1 W (by omega) (HR3.out.to hb))
      have hcl2 := Lib.hid (fcells_len us)
      have HFA := Lib.hid (fcells_app ls us)
      have HLN := Lib.hid (show ls.length + us.length = ks.length by have := HLA.out; have := HLB.out; omega)
      go_cut [8] (fun s8 wc => ∃ au cu, s8 = .slice au ks.length cu ∧ Hid (Reads wc au (ks.length * 2) (fracs (ls ++ us))) ∧ Hid (Below w3.heap.size w3 wc))
      case first =>
        refine wp_region_tree (by kernel_rfl) (fun wd hwd => ?_)
        have T := Lib.hid hwd
        clear hwd
        refine WT_yes 0 rfl (by kernel_rfl) (fun _ _ _ _ _ h => h) (by rfl) ?_; apply Exists.intro; refine ⟨fun w1 hb1 => ?_, ?_⟩; (focus ((skip; have hb1 := Lib.hid hb1; go_simp); (try (go_bits; try go_simp)); (try (rw [if_pos (by omega)]; try go_simp)); (first | done | (fail) | (with_reducible rfl) | exact rfl)))
        simp only [Act.put, List.setIfInBounds_toArray, List.set_cons_zero, List.set_cons_succ]
        refine WT_yes 1 rfl (by kernel_rfl) (fun _ _ _ _ _ h => h) (by rfl) ?_; apply Exists.intro; refine ⟨fun w1 hb1 => ?_, ?_⟩; (focus (((obtain ⟨-, k5, -⟩ := K5.out.to (T.out.trans hb1)); have hb1 := Lib.hid hb1; go_simp); (try (go_bits; try go_simp)); (try (rw [if_pos (by omega)]; try go_simp)); (first | done | (fail) | (with_reducible rfl) | exact rfl)))
        simp only [Act.put, List.setIfInBounds_toArray, List.set_cons_zero, List.set_cons_succ]
        refine WT_yes 3 rfl (by kernel_rfl) (fun _ _ _ _ _ h => h) (by rfl) ?_; apply Exists.intro; refine ⟨fun w1 hb1 => ?_, ?_⟩; (focus ((skip; have hb1 := Lib.hid hb1; go_simp); (try (go_bits; try go_simp)); (try (rw [if_pos (by omega)]; try go_simp)); (first | done | (fail) | (with_reducible rfl) | exact rfl)))
        simp only [Act.put, List.setIfInBounds_toArray, List.set_cons_zero, List.set_cons_succ]
        refine WT_yes 4 rfl (by kernel_rfl) (fun _ _ _ _ _ h => h) (by rfl) ?_; apply Exists.intro; refine ⟨fun w1 hb1 => ?_, ?_⟩; (focus (((obtain ⟨-, k5, -⟩ := K5.out.to (T.out.trans hb1)); have hb1 := Lib.hid hb1; go_simp); (try (go_bits; try go_simp)); (try (rw [if_pos (by omega)]; try go_simp)); (first | done | (fail) | (with_reducible rfl) | exact rfl)))
        simp only [Act.put, List.setIfInBounds_toArray, List.set_cons_zero, List.set_cons_succ]
        refine WT_one 2 rfl (by kernel_rfl) ?_
        unfold stepT
        go_wp2_with fail
        refine (HCO.out _ (bThen HB.out T.out)).mono ?_
        rintro e w4 ⟨v4, rfl, hown, hb⟩
        have HOWN := Lib.hid hown
        have hbd := Lib.hid (hb.mono T.out.size)
        have hlo := Lib.hid hown.lt
        have hsd : w3.heap.size ≤ wd.heap.size := T.out.size
        have hsd4 : wd.heap.size ≤ w4.heap.size := hb.size
        replace T := Lib.hid (T.out.trans hbd.out)
        clear hb hown
        go_wp2_with fail
        refine ⟨hbd.out, ?_⟩
        clear hbd
        refine WT_one 5 rfl (by kernel_rfl) ?_
        unfold stepT
        cases b2 with
        | none =>
          have hz : us.length = 0 := by
            rcases HR4.out with h | ⟨b, off, e, -⟩
            · omega
            · cases e
          have HL0 : Hid (us = []) := Lib.hid (List.length_eq_zero_iff.1 hz)
          obtain ⟨g, cap, cur, hv, -, -, hcap, -⟩ : ∃ g cap cur, _ = Value.slice (some ⟨g, 0, none⟩) ls.length cap ∧ wd.heap.size ≤ g ∧ w4.heap[g]? = some (.cells cur 86 (0, 0)) ∧ ls.length ≤ cap ∧ True := by
            rcases HOWN.out.2 with ⟨-, h⟩ | ⟨g, cap, cur, h, h', h'', h3, -⟩
            · have := HLA.out; omega
            · exact ⟨g, cap, cur, h, h', h'', h3, trivial⟩
          subst hv
          go_wp2_with fail
          refine ⟨Below.refl _ _, ?_⟩
          refine WT_one 6 rfl (by kernel_rfl) ?_
          unfold stepT
          go_wp2_with fail
          refine ⟨Below.refl _ _, ?_⟩
          refine WT_done (by kernel_rfl) ?_
          have hrow := HOWN.out
          obtain ⟨a', cap', hv, -, hrd, -⟩ := Reads.of_row (f := fracs ls) hrow (fun i hi => fcells_get ls i hi)
          cases hv
          have HRD := Lib.hid hrd
          have HLS : Hid (ls.length = ks.length) := Lib.hid (by have := HLN.out; omega)
          clear hrow hrd hcap
          go_wp2_with fail
          go_meet
          case rel => exact ⟨_, _, by rw [HLS.out], Lib.hid (by rw [HL0.out, List.append_nil, ← HLS.out]; exact HRD.out), T⟩
        | some ad =>
          have HNW := Lib.hid (Reads.newsF ((HR4.out.to HB.out).to T.out))
          go_wp2_with (at_builtin; (refine wpList_app wd.heap.size rtFrac rfl (.tmp 32) (.tmp 34) rfl _ ls.length (fcells ls) rfl HOWN.out ad us.length d2 (fcells us) rfl hcl2.out HNW.out (onesF _) (by unfold maxLen; omega) (by omega) (by omega) ?_; intro v' w8 hown' hgrow _ _; have HO := Lib.hid hown'; have HG := Lib.hid hgrow; clear hown' hgrow))
          have HB8 : Hid (Below w3.heap.size w4 w8) := Lib.hid ((Below.refl _ _).grown HG.out (by omega) (fun k e => by have := (hlo.out k e).1; omega))
          refine ⟨HB8.out, ?_⟩
          replace T := Lib.hid (T.out.trans HB8.out)
          refine WT_one 6 rfl (by kernel_rfl) ?_
          unfold stepT
          go_wp2_with fail
          refine ⟨Below.refl _ _, ?_⟩
          refine WT_done (by kernel_rfl) ?_
          have hrow := HO.out
          rw [← HFA.out] at hrow
          have HGET := fun i (hi : i < (ls.length + us.length) * 2) => fcells_get (ls ++ us) i (by rw [List.length_append]; exact hi)
          obtain ⟨a', cap', hv, -, hrd, -⟩ := Reads.of_row (f := fracs (ls ++ us)) hrow HGET
          subst hv
          have HRD := Lib.hid hrd
          clear hrow hrd HGET
          go_wp2_with fail
          go_meet
          case rel => exact ⟨_, _, by rw [HLN.out], Lib.hid (by rw [← HLN.out]; exact HRD.out), T⟩
      case rest =>
        obtain ⟨au, cu, rfl, HRU, HC3⟩ := hcut
        obtain ⟨wo, hwo⟩ : ∃ wo, wo = wc := ⟨_, rfl⟩
        subst hwo
        replace K3 := Lib.hid (K3.out.to HC3.out)
        replace K5 := Lib.hid (K5.out.to HC3.out)
        replace HB := Lib.hid (bThen HB.out HC3.out)
        have hln : (ls ++ us).length = ks.length := by rw [List.length_append]; exact HLN.out
        obtain ⟨l, hl⟩ : ∃ l, ls ++ us = l := ⟨_, rfl⟩
        rw [hl] at HRU HQ HI64 hln
        rw [hln] at HI64
        have HLL := Lib.hid hln
        obtain ⟨ku, ou, rfl, -, -⟩ := HRU.out.at (k := 0) (by omega)
        clear hl hln HC3 HCO hcl2 HFA HLN HLA HLB HQQ HR3 HR4
        go_wp2_with fail
        go_loopw [9] (fun iv wr => ∃ k : Nat, k ≤ ks.length ∧ iv = .int .i64 k ∧ Hid (eachR (fun k => frE (fg l k)) 0 ks.length = eachR (fun k => frE (fg l k)) k (ks.length - k)) ∧ Hid (Below wo.heap.size wo wr)) (fun iv _ => ks.length - (intOf iv).toNat)
        case atStart => exact ⟨0, Nat.zero_le _, rfl, Lib.hid rfl, Lib.hid (bSelf wo)⟩
        case round =>
          obtain ⟨k, hk, rfl, hE, hBk⟩ := hrel
          by_cases hlt : k < ks.length
          · have hltI : decide ((k : Int) < (ks.length : Int)) = true := decide_eq_true (by omega)
            obtain ⟨b, off, he, hb', hc'⟩ := (HRU.out.to hBk.out).at (k := k * 2) (by omega)
            cases he
            have HLO := Lib.hid (fun W => IsLowest_i64 (fg l k) W (HI64.out k hlt))
            have HF3 := Lib.hid (@frE_3 (fg l k))
            have HF2 := Lib.hid (@frE_2 (fg l k))
            have HF0 := Lib.hid (@frE_0 (fg l k))
            have HSTOP := Lib.hid (fun (h : frE (fg l k) ≠ 0) => eachR_stop (err := fun k => frE (fg l k)) hlt h)
            have HSTEP := Lib.hid (fun (h : frE (fg l k) = 0) => eachR_step (err := fun k => frE (fg l k)) hlt h)
            obtain ⟨n, d, hnd'⟩ : ∃ n d, fg l k = (n, d) := ⟨_, _, rfl⟩
            have kn : wr.cell? ⟨ku, ou + k * 2, none⟩ = some (.int .i64 n) := by rw [hc' _ (by omega), fracs0, hnd']
            have kd : wr.cell? ⟨ku, ou + k * 2 + 1, none⟩ = some (.int .i64 d) := by rw [Nat.add_assoc, hc' _ (by omega), fracs1, hnd']
            have KN := Lib.hid kn
            have KD := Lib.hid kd
            rw [hnd'] at HLO HF3 HF2 HF0 HSTOP HSTEP
            dsimp only at HLO HF3 HF2 HF0 HSTOP HSTEP
            clear hc' hnd'
            obtain ⟨lo, hlo⟩ : ∃ lo, lowB n d = lo := ⟨_, rfl⟩
            rw [hlo] at HLO HF3 HF2 HF0
            clear hlo
            go_wp2_with fail
            refine (HLO.out _).mono ?_
            rintro e w5 ⟨rfl, hb⟩
            have hBk5 := Lib.hid (bThen hBk.out hb)
            replace KN := Lib.hid ((hb.cell (p := ⟨ku, ou + k * 2, none⟩) hb').trans KN.out)
            replace KD := Lib.hid ((hb.cell (p := ⟨ku, ou + k * 2 + 1, none⟩) hb').trans KD.out)
            clear hb kn kd
            rcases lo with _ | _
            · have h3 := HF3.out rfl
              have hST := HSTOP.out (by rw [h3]; decide)
              rw [h3] at hST
              have HRR : Hid (r = ((k : Int), 3)) := Lib.hid (by
                have := HQ.out
                rw [hE.out, hST, if_pos (by simp)] at this
                exact this.symm)
              clear h3 hST
              go_wp2_with fail
              go_ret2
              rw [HRR.out]
              exact ⟨rfl, bThen HB.out hBk5.out⟩
            · obtain ⟨s, hs⟩ : ∃ s, (decide (-1000000000 ≤ n) && decide (n ≤ 1000000000)) = s := ⟨_, rfl⟩
              have HSS := Lib.hid hs
              rw [hs] at HF2 HF0
              clear hs
              have kn := KN.out
              have kd := KD.out
              rcases s with _ | _
              · have h3 := HF2.out rfl rfl
                have hST := HSTOP.out (by rw [h3]; decide)
                rw [h3] at hST
                have HRR : Hid (r = ((k : Int), 2)) := Lib.hid (by
                  have := HQ.out
                  rw [hE.out, hST, if_pos (by simp)] at this
                  exact this.symm)
                clear h3 hST
                go_wp2_with fail
                refine (bWithin_any _ _ _ _).mono ?_
                rintro e w' ⟨rfl, rfl⟩
                rw [HSS.out]
                go_wp2_with fail
                go_ret2
                rw [HRR.out]
                exact ⟨rfl, bThen HB.out hBk5.out⟩
              · by_cases hd : d ≤ 1000000000
                · have hdt : decide (1000000000 < d) = false := decide_eq_false (by omega)
                  have h3 := HF0.out rfl (by rw [decide_eq_true hd]; rfl)
                  have HST := Lib.hid (HSTEP.out h3)
                  clear h3
                  go_wp2_with fail
                  refine (bWithin_any _ _ _ _).mono ?_
                  rintro e w' ⟨rfl, rfl⟩
                  rw [HSS.out]
                  go_wp2_with fail
                  go_roundw
                  case rel => exact ⟨k + 1, by omega, by go_num, Lib.hid (hE.out.trans HST.out), hBk5⟩
                  case measure => simp [intOf]; omega
                · have hdt : decide (1000000000 < d) = true := decide_eq_true (by omega)
                  have h3 := HF2.out rfl (by rw [decide_eq_false hd]; rfl)
                  have hST := HSTOP.out (by rw [h3]; decide)
                  rw [h3] at hST
                  have HRR : Hid (r = ((k : Int), 2)) := Lib.hid (by
                    have := HQ.out
                    rw [hE.out, hST, if_pos (by simp)] at this
                    exact this.symm)
                  clear h3 hST
                  go_wp2_with fail
                  refine (bWithin_any _ _ _ _).mono ?_
                  rintro e w' ⟨rfl, rfl⟩
                  rw [HSS.out]
                  go_wp2_with fail
                  go_ret2
                  rw [HRR.out]
                  exact ⟨rfl, bThen HB.out hBk5.out⟩
          · have hltI : decide ((k : Int) < (ks.length : Int)) = false := decide_eq_false (by omega)
            have hke : k = ks.length := by omega
            have HE0 : Hid (eachR (fun k => frE (fg l k)) 0 ks.length = (0, 0)) := Lib.hid (by rw [hE.out, hke, Nat.sub_self]; rfl)
            have HSM : Hid (∀ j, j < l.length → SmF (fg l j)) := Lib.hid (fun j hj => frE_zero (by
              have h := eachR_zero ks.length 0 (err := fun k => frE (fg l k)) (by rw [HE0.out]) j (by omega) (by rw [HLL.out] at hj; omega)
              exact h))
            have HQ2 := HQ.out
            rw [HE0.out, if_neg (by decide)] at HQ2
            replace HQ := Lib.hid HQ2
            replace K3 := Lib.hid (K3.out.to hBk.out)
            replace K5 := Lib.hid (K5.out.to hBk.out)
            replace HB := Lib.hid (bThen HB.out hBk.out)
            replace HRU := Lib.hid (HRU.out.to hBk.out)
            clear HQ2 hke hE hBk HE0 HI64
            obtain ⟨SV, hSV⟩ : ∃ s, (fs.drop (nd + 1)).sum = s := ⟨_, rfl⟩
            have HAB : Hid (∀ W, Below w.heap.size w W → Calls Try.prog 111 #[.agg (chV a1 ks.length c1 a2 fs.length c2), .int .i64 nd] W fun e w' => e = .returned (.int .i64 SV) ∧ Below W.heap.size W w') := Lib.hid (fun W hb => by
              have := Above_any fs a1 a2 ks.length c1 c2 (nd + 1) nd W (by omega) (by have := HLEN.out; omega) (by have := HLEN.out; omega) (fun j hj => HOK.out.f1 j (by have := HLEN.out; omega)) (HR2.out.to hb)
              rw [upTo_sum (by have := HLEN.out; omega), hSV] at this
              exact this)
            have HSV : Hid (-8000 ≤ SV ∧ SV ≤ 8000) := Lib.hid (by
              have h := @suml_bd (fs.drop (nd + 1)) (fun k hk => by rw [gi_dropk]; rw [List.length_drop] at hk; exact HOK.out.f1 _ (by have := HLEN.out; omega))
              rw [List.length_drop, hSV] at h
              have := HLEN.out
              omega)
            rw [hSV] at HQ
            clear hSV
            go_upto_region 11 with (fail)
            obtain ⟨wp, hwp⟩ : ∃ wp, wp = wr := ⟨_, rfl⟩
            subst hwp
            refine wp_region_quiet_all (fun w' => Below (World.heap wp).size (wp) w') (by kernel_rfl) (by kernel_rfl) (Below.refl _ _).drew ?_
            refine WQ.out ?_
            repeat (first | (refine WQ_no (by rfl) ?_; (simp only [Act.put, List.setIfInBounds_toArray, List.set_cons_zero, List.set_cons_succ])) | (refine WQ_yes (by rfl) ?_; apply Exists.intro; refine ⟨fun w1 hb1 => ?_, ?_⟩; (focus (((obtain ⟨-, k3, -⟩ := K3.out.to hb1; obtain ⟨-, k5, -⟩ := K5.out.to hb1); have hb1 := Lib.hid hb1; go_simp); (try (go_bits; try go_simp)); (try (rw [if_pos (by omega)]; try go_simp)); (first | done | ((go_at_call 111; refine (HAB.out _ (bThen HB.out hb1.out)).mono ?_; rintro e w' ⟨rfl, hb2⟩; exact ⟨rfl, bThen hb1.out hb2⟩)) | (with_reducible rfl) | exact rfl))); (simp only [Act.put, List.setIfInBounds_toArray, List.set_cons_zero, List.set_cons_succ])))
            refine WQ_nil ?_
            intro w1 hb1
            replace K3 := Lib.hid (K3.out.to hb1)
            replace K5 := Lib.hid (K5.out.to hb1)
            replace HB := Lib.hid (bThen HB.out hb1)
            replace HRU := Lib.hid (HRU.out.to hb1)
            clear hb1 HAB
            obtain ⟨wq, hwq⟩ : ∃ wq, wq = w1 := ⟨_, rfl⟩
            subst hwq
            by_cases hF : F = SV
            · have hF0 : (F != SV) = false := by rw [hF]; simp
              rw [hF0]
              have HQ2 := HQ.out
              rw [if_neg (fun h : F ≠ SV => h hF)] at HQ2
              have HQE := Lib.hid HQ2
              have HFB : Hid (-8000 ≤ F ∧ F ≤ 8000) := Lib.hid (by rw [hF]; exact HSV.out)
              have hln : l.length = ks.length := HLL.out
              have HSPR : Hid (∀ W (j : Nat), j < ks.length → Below wq.heap.size wq W → Calls Try.prog 113 #[.agg (chV a1 ks.length c1 a2 fs.length c2), .slice (some ⟨ku, ou, none⟩) ks.length cu, .int .i64 j] W fun e w1 => RPost [] (sprQ ks l j) W e w1) := Lib.hid (fun W j hj hb =>
                spring_any ks l j a1 a2 (some ⟨ku, ou, none⟩) c1 fs.length c2 cu W (by omega) hj hln (by have := HOK.out.k1 j hj; omega) (by have := HOK.out.k1 j hj; omega) HSM.out ((HR1.out.to HB.out).to hb) (HRU.out.to hb))
              have HSPU : Hid (∀ W (j : Nat), j + 1 < ks.length → Below wq.heap.size wq W → Calls Try.prog 113 #[.agg (chV a1 ks.length c1 a2 fs.length c2), .slice (some ⟨ku, ou, none⟩) ks.length cu, .int .i64 ((j : Int) + 1)] W fun e w1 => RPost [] (sprQ ks l (j + 1)) W e w1) := Lib.hid (fun W j hj hb => by
                have := HSPR.out W (j + 1) hj hb
                rw [Int.natCast_add] at this
                exact this)
              have HDG := Lib.hid (fun j (hj : j < ks.length) => sprQ_dg (ks := ks) (u := l) (k := j) (by omega) (by have := HOK.out.k1 j hj; omega) (by have := HOK.out.k1 j hj; omega) HSM.out)
              have HLAW := Lib.hid (fun k (hk : k < ks.length) => node_law (fs := fs) (F := F) (nd := nd) hln (by omega : k < l.length) HSM.out)
              have HNB := Lib.hid (fun k (h : nbE ks fs l F nd k ≠ 0) => (show nbE ks fs l F nd k = 19 by unfold nbE unl at h ⊢; split at h <;> simp_all))
              clear hF HQ HQ2 HSV hln hltI hlt hk
              go_wp2_with fail
              go_loopw [10, 11] (fun iv _ wr => ∃ k : Nat, k ≤ ks.length ∧ iv = .int .i64 k ∧ Hid (eachR (nbE ks fs l F nd) 0 ks.length = eachR (nbE ks fs l F nd) k (ks.length - k)) ∧ Hid (Below wq.heap.size wq wr)) (fun iv _ _ => ks.length - (intOf iv).toNat)
              case atStart => exact ⟨0, Nat.zero_le _, rfl, Lib.hid rfl, Lib.hid (bSelf wq)⟩
              case round =>
                obtain ⟨k, hk, rfl, hE, hBk⟩ := hrel
                have hsqr : wq.heap.size ≤ wr.heap.size := hBk.out.size
                by_cases hlt : k < ks.length
                · have hltI : decide ((k : Int) < (ks.length : Int)) = true := decide_eq_true (by omega)
                  have K3k := Lib.hid (K3.out.to hBk.out)
                  have K5k := Lib.hid (K5.out.to hBk.out)
                  have HBk := Lib.hid (bThen HB.out hBk.out)
                  obtain ⟨b2', o2', he2, hb2', hc2'⟩ := HR2.out.at (k := k) (by have := HLEN.out; omega)
                  have KF := Lib.hid (hc2' k (by have := HLEN.out; omega))
                  have hkf : k < fs.length := by have := HLEN.out; omega
                  obtain ⟨f0, f1⟩ := HOK.out.f1 k hlt
                  have HLK := Lib.hid (HLAW.out k hlt)
                  have HDK := Lib.hid (HDG.out k hlt)
                  obtain ⟨f, hf⟩ : ∃ f, gi fs k = f := ⟨_, rfl⟩
                  have KF2 : Hid (w.cell? ⟨b2', o2' + k, none⟩ = some (.int .i64 f)) := Lib.hid (by rw [KF.out, ← hf]; rfl)
                  rw [hf] at f0 f1 HLK
                  subst he2
                  clear hf hc2' KF
                  have HZ := Lib.hid (fun W => RatioInt_any 0 W (by omega) (by omega))
                  have HFI := Lib.hid (fun W => RatioInt_any f W (by omega) (by omega))
                  go_wp2_with fail
                  refine (HZ.out _).mono ?_
                  rintro e w4 ⟨aA, bA, vA, rfl, hvA, hb, -⟩
                  have HVA := Lib.hid hvA
                  replace hBk := Lib.hid (bThen hBk.out hb)
                  replace K3k := Lib.hid (K3k.out.to hb)
                  replace K5k := Lib.hid (K5k.out.to hb)
                  replace HBk := Lib.hid (bThen HBk.out hb)
                  have hszr : wr.heap.size ≤ w4.heap.size := hb.size
                  clear hb
                  obtain ⟨sA, nA, cA, sB, nB, cB, rfl, -, -⟩ := hvA
                  go_upto_region 17 with (fail)
                  obtain ⟨w5, hw5⟩ : ∃ w5, w4.alloc (.cells #[.int .i64 sA, .slice aA nA cA, .int .i64 sB, .slice bA nB cB] 111) = w5 := ⟨_, rfl⟩
                  rw [hw5]
                  have hb5 : Below w4.heap.size w4 w5 := by subst hw5; exact bAlloc (bSelf _) _
                  have KB : Hid (Blk w5 w4.heap.size #[.int .i64 sA, .slice aA nA cA, .int .i64 sB, .slice bA nB cB]) := by subst hw5; exact Lib.hid (Blk.new _ _ _)
                  replace HVA := Lib.hid (HVA.out.to hb5)
                  replace hBk := Lib.hid (bThen hBk.out hb5)
                  replace K3k := Lib.hid (K3k.out.to hb5)
                  replace K5k := Lib.hid (K5k.out.to hb5)
                  replace HBk := Lib.hid (bThen HBk.out hb5)
                  clear hb5 hw5
                  have hB4 : w4.heap.size < w5.heap.size := KB.out.1
                  obtain ⟨B, hBe⟩ : ∃ B, w4.heap.size = B := ⟨_, rfl⟩
                  have hBw : w.heap.size + 1 < B := by have := K5.out.1; omega
                  have hBq : wq.heap.size ≤ B := by omega
                  have hwq : w.heap.size + 1 < wq.heap.size := K5.out.1
                  rw [hBe] at KB hB4 ⊢
                  clear hBe
                  by_cases hnd2 : k = nd
                  · have eQ : abvQ ks l F nd k = (F, 1) := by unfold abvQ; rw [if_pos hnd2]
                    have hq : ((k : Int) == (nd : Int)) = true := by rw [hnd2]; simp
                    have HRF := Lib.hid (fun W => RatioInt_any F W (by have := HFB.out; omega) (by have := HFB.out; omega))
                    obtain ⟨-, k5, -⟩ := K5k.out
                    clear hnd2
                    go_wp2_with fail
                    clear k5
                    refine (HRF.out _).mono ?_
                    rintro e w6 ⟨aN, bN, vN, rfl, hvN, hb, hlN⟩
                    have HVN := Lib.hid hvN
                    have HLN1 := Lib.hid (hlN (fun b => b ≠ B) (fun b hb => by omega) (fun i hi => by cases hi))
                    replace hBk := Lib.hid (bThen hBk.out hb)
                    replace K3k := Lib.hid (K3k.out.to hb)
                    replace K5k := Lib.hid (K5k.out.to hb)
                    replace HBk := Lib.hid (bThen HBk.out hb)
                    replace KB := Lib.hid (KB.out.to hb)
                    have hB6 : w5.heap.size ≤ w6.heap.size := hb.size
                    clear hb hlN HVA
                    obtain ⟨sN, nN, cN, sM, nM, cM, rfl, -, -⟩ := hvN
                    obtain ⟨hkb, kb, fb⟩ := KB.out
                    go_upto_region 21 with (fail)
                    clear kb fb
                    have KB' : Hid (Blk ((((w6.setCell ⟨B, 0, none⟩ (.int .i64 sN)).setCell ⟨B, 1, none⟩ (.slice aN nN cN)).setCell ⟨B, 2, none⟩ (.int .i64 sM)).setCell ⟨B, 3, none⟩ (.slice bN nM cM)) B #[.int .i64 sN, .slice aN nN cN, .int .i64 sM, .slice bN nM cM]) := Lib.hid ((((KB.out.set 0 (.int .i64 sN)).set 1 (.slice aN nN cN)).set 2 (.int .i64 sM)).set 3 (.slice bN nM cM))
                    have HVA := Lib.hid ((((HVN.out.set1 HLN1.out.1 HLN1.out.2 (i := 0) (.int .i64 sN)).set1 HLN1.out.1 HLN1.out.2 (i := 1) (.slice aN nN cN)).set1 HLN1.out.1 HLN1.out.2 (i := 2) (.int .i64 sM)).set1 HLN1.out.1 HLN1.out.2 (i := 3) (.slice bN nM cM))
                    have hbs : Hid (Below wq.heap.size w6 ((((w6.setCell ⟨B, 0, none⟩ (.int .i64 sN)).setCell ⟨B, 1, none⟩ (.slice aN nN cN)).setCell ⟨B, 2, none⟩ (.int .i64 sM)).setCell ⟨B, 3, none⟩ (.slice bN nM cM))) := Lib.hid (((((Below.refl _ _).setCell (p := ⟨B, 0, none⟩) (by dsimp only; omega) _).setCell (p := ⟨B, 1, none⟩) (by dsimp only; omega) _).setCell (p := ⟨B, 2, none⟩) (by dsimp only; omega) _).setCell (p := ⟨B, 3, none⟩) (by dsimp only; omega) _)
                    replace K3k := Lib.hid (K3.out.to (hBk.out.trans hbs.out))
                    replace HBk := Lib.hid (HBk.out.trans (hbs.out.mono (by omega)))
                    replace hBk := Lib.hid (hBk.out.trans hbs.out)
                    have hszw : ((((w6.setCell ⟨B, 0, none⟩ (.int .i64 sN)).setCell ⟨B, 1, none⟩ (.slice aN nN cN)).setCell ⟨B, 2, none⟩ (.int .i64 sM)).setCell ⟨B, 3, none⟩ (.slice bN nM cM)).heap.size = w6.heap.size := by simp [World.setCell]
                    obtain ⟨w7, hw7⟩ : ∃ w7, (((w6.setCell ⟨B, 0, none⟩ (.int .i64 sN)).setCell ⟨B, 1, none⟩ (.slice aN nN cN)).setCell ⟨B, 2, none⟩ (.int .i64 sM)).setCell ⟨B, 3, none⟩ (.slice bN nM cM) = w7 := ⟨_, rfl⟩
                    rw [hw7] at KB' HVA K3k HBk hBk hszw ⊢
                    clear hw7 hbs HVN HLN1 KB hkb
                    have KB := KB'
                    clear KB' 
                    have hFB := HFB.out
                    have HAD := Lib.hid (fun W' aF bF vF (hF : RR W' aF bF vF (f, 1)) (hA : RR W' aN bN (.agg #[.int .i64 sN, .slice aN nN cN, .int .i64 sM, .slice bN nM cM]) (F, 1)) => RatioAdd_any (F, 1) (f, 1) aN bN aF bF _ vF W' hA hF (Nat.le_trans (show (dg (F, (1 : Int)).1).length ≤ 6 ∧ (dg (F, (1 : Int)).2).length ≤ 6 ∧ 0 < (F, (1 : Int)).2 from ⟨Nat.le_trans (dg_small 3 (show (F : Int).natAbs < 1000000000 ^ 3 by omega)) (by decide), Nat.le_trans (dg_small 3 (show (1 : Int).natAbs < 1000000000 ^ 3 by decide)) (by decide), (show (0 : Int) < 1 by decide)⟩).1 (by decide)) (Nat.le_trans (show (dg (F, (1 : Int)).1).length ≤ 6 ∧ (dg (F, (1 : Int)).2).length ≤ 6 ∧ 0 < (F, (1 : Int)).2 from ⟨Nat.le_trans (dg_small 3 (show (F : Int).natAbs < 1000000000 ^ 3 by omega)) (by decide), Nat.le_trans (dg_small 3 (show (1 : Int).natAbs < 1000000000 ^ 3 by decide)) (by decide), (show (0 : Int) < 1 by decide)⟩).2.1 (by decide)) (Nat.le_trans (dg_small 3 (show f.natAbs < 1000000000 ^ 3 by omega)) (by decide)) (Nat.le_trans (dg_small 3 (show (1 : Int).natAbs < 1000000000 ^ 3 by decide)) (by decide)) (show (dg (F, (1 : Int)).1).length ≤ 6 ∧ (dg (F, (1 : Int)).2).length ≤ 6 ∧ 0 < (F, (1 : Int)).2 from ⟨Nat.le_trans (dg_small 3 (show (F : Int).natAbs < 1000000000 ^ 3 by omega)) (by decide), Nat.le_trans (dg_small 3 (show (1 : Int).natAbs < 1000000000 ^ 3 by decide)) (by decide), (show (0 : Int) < 1 by decide)⟩).2.2 (show (0 : Int) < 1 by decide))
                    have HAQ := Lib.hid (addQ_dg (f := f) (show (dg (F, (1 : Int)).1).length ≤ 6 ∧ (dg (F, (1 : Int)).2).length ≤ 6 ∧ 0 < (F, (1 : Int)).2 from ⟨Nat.le_trans (dg_small 3 (show (F : Int).natAbs < 1000000000 ^ 3 by omega)) (by decide), Nat.le_trans (dg_small 3 (show (1 : Int).natAbs < 1000000000 ^ 3 by decide)) (by decide), (show (0 : Int) < 1 by decide)⟩).1 (show (dg (F, (1 : Int)).1).length ≤ 6 ∧ (dg (F, (1 : Int)).2).length ≤ 6 ∧ 0 < (F, (1 : Int)).2 from ⟨Nat.le_trans (dg_small 3 (show (F : Int).natAbs < 1000000000 ^ 3 by omega)) (by decide), Nat.le_trans (dg_small 3 (show (1 : Int).natAbs < 1000000000 ^ 3 by decide)) (by decide), (show (0 : Int) < 1 by decide)⟩).2.1 (by omega))
                    have HCM := Lib.hid (fun W' aS bS aP bP vS vP (hS : RR W' aS bS vS (rAdd (F, 1) (f, 1))) (hP : RR W' aP bP vP (sprQ ks l k)) => RatioCmp_any _ _ aS bS aP bP vS vP W' hS hP (Nat.le_trans HAQ.out.1 (by decide)) (Nat.le_trans HAQ.out.2 (by decide)) (Nat.le_trans HDK.out.1 (by decide)) (Nat.le_trans HDK.out.2.1 (by decide)))
                    have HLQ : Hid (cmpQ (rAdd (F, 1) (f, 1)) (sprQ ks l k) = 0 ↔ nbE ks fs l F nd k = 0) := Lib.hid (by have h := HLK.out; rw [eQ] at h; exact h)
                    obtain ⟨sg, hsg⟩ : ∃ s, cmpQ (rAdd (F, 1) (f, 1)) (sprQ ks l k) = s := ⟨_, rfl⟩
                    have hsg2 : ((rAdd (F, 1) (f, 1)).1 * (sprQ ks l k).2 - (sprQ ks l k).1 * (rAdd (F, 1) (f, 1)).2).sign = sg := hsg
                    rw [hsg2] at HCM
                    rw [hsg] at HLQ
                    clear hsg hsg2 eQ HLK HAQ
                    by_cases hs0 : sg = 0
                    · have hsb : (sg != 0) = false := by rw [hs0]; rfl
                      have HNZ := Lib.hid (HLQ.out.1 hs0)
                      clear hs0
                      go_upto_region 21 with (fail)
                      refine wp_region_tree (by kernel_rfl) (fun wd hwd => ?_)
                      have T := Lib.hid hwd
                      clear hwd
                      refine WT_yes 0 rfl (by kernel_rfl) (fun _ _ _ _ _ h => h) (by rfl) ?_; apply Exists.intro; refine ⟨fun w1 hb1 => ?_, ?_⟩; (focus (((obtain ⟨-, kb, -⟩ := KB.out.to (T.out.trans hb1)); have hb1 := Lib.hid hb1; go_simp); (try (go_bits; try go_simp)); (try (rw [if_pos (by omega)]; try go_simp)); (first | done | (fail) | (with_reducible rfl) | exact rfl)))
                      simp only [Act.put, List.setIfInBounds_toArray, List.set_cons_zero, List.set_cons_succ]
                      refine WT_yes 1 rfl (by kernel_rfl) (fun _ _ _ _ _ h => h) (by rfl) ?_; apply Exists.intro; refine ⟨fun w1 hb1 => ?_, ?_⟩; (focus ((skip; have hb1 := Lib.hid hb1; go_simp); (try (go_bits; try go_simp)); (try (rw [if_pos (by omega)]; try go_simp)); (first | done | (fail) | (with_reducible rfl) | exact rfl)))
                      simp only [Act.put, List.setIfInBounds_toArray, List.set_cons_zero, List.set_cons_succ]
                      refine WT_yes 2 rfl (by kernel_rfl) (fun _ _ _ _ _ h => h) (by rfl) ?_; apply Exists.intro; refine ⟨fun w1 hb1 => ?_, ?_⟩; (focus (((obtain ⟨-, k3, -⟩ := K3k.out.to (T.out.trans hb1)); have hb1 := Lib.hid hb1; go_simp); (try (go_bits; try go_simp)); (try (rw [if_pos (by omega)]; try go_simp)); (first | done | (fail) | (with_reducible rfl) | exact rfl)))
                      simp only [Act.put, List.setIfInBounds_toArray, List.set_cons_zero, List.set_cons_succ]
                      refine WT_yes 3 rfl (by kernel_rfl) (fun _ _ _ _ _ h => h) (by rfl) ?_; apply Exists.intro; refine ⟨fun w1 hb1 => ?_, ?_⟩; (focus ((skip; have hb1 := Lib.hid hb1; go_simp); (try (go_bits; try go_simp)); (try (rw [if_pos (by omega)]; try go_simp)); (first | done | (fail) | (with_reducible rfl) | exact rfl)))
                      simp only [Act.put, List.setIfInBounds_toArray, List.set_cons_zero, List.set_cons_succ]
                      refine WT_yes 4 rfl (by kernel_rfl) (fun _ _ _ _ _ h => h) (by rfl) ?_; apply Exists.intro; refine ⟨fun w1 hb1 => ?_, ?_⟩; (focus ((skip; have hb1 := Lib.hid hb1; go_simp); (try (go_bits; try go_simp)); (try (rw [if_pos (by omega)]; try go_simp)); (first | done | (fail) | (with_reducible rfl) | exact rfl)))
                      simp only [Act.put, List.setIfInBounds_toArray, List.set_cons_zero, List.set_cons_succ]
                      refine WT_yes 5 rfl (by kernel_rfl) (fun _ _ _ _ _ h => h) (by rfl) ?_; apply Exists.intro; refine ⟨fun w1 hb1 => ?_, ?_⟩; (focus (((have kf := ((HBk.out.trans ((T.out.trans hb1).mono (show w.heap.size ≤ w7.heap.size by omega))).cell (p := ⟨b2', o2' + k, none⟩) hb2').trans KF2.out); have hb1 := Lib.hid hb1; go_simp); (try (go_bits; try go_simp)); (try (rw [if_pos (by omega)]; try go_simp)); (first | done | (fail) | (with_reducible rfl) | exact rfl)))
                      simp only [Act.put, List.setIfInBounds_toArray, List.set_cons_zero, List.set_cons_succ]
                      refine WT_yes 8 rfl (by kernel_rfl) (fun _ _ _ _ _ h => h) (by rfl) ?_; apply Exists.intro; refine ⟨fun w1 hb1 => ?_, ?_⟩; (focus (((obtain ⟨-, k3, -⟩ := K3k.out.to (T.out.trans hb1)); have hb1 := Lib.hid hb1; go_simp); (try (go_bits; try go_simp)); (try (rw [if_pos (by omega)]; try go_simp)); (first | done | (fail) | (with_reducible rfl) | exact rfl)))
                      simp only [Act.put, List.setIfInBounds_toArray, List.set_cons_zero, List.set_cons_succ]
                      refine WT_yes 9 rfl (by kernel_rfl) (fun _ _ _ _ _ h => h) (by rfl) ?_; apply Exists.intro; refine ⟨fun w1 hb1 => ?_, ?_⟩; (focus ((skip; have hb1 := Lib.hid hb1; go_simp); (try (go_bits; try go_simp)); (try (rw [if_pos (by omega)]; try go_simp)); (first | done | (fail) | (with_reducible rfl) | exact rfl)))
                      simp only [Act.put, List.setIfInBounds_toArray, List.set_cons_zero, List.set_cons_succ]
                      refine WT_yes 10 rfl (by kernel_rfl) (fun _ _ _ _ _ h => h) (by rfl) ?_; apply Exists.intro; refine ⟨fun w1 hb1 => ?_, ?_⟩; (focus ((skip; have hb1 := Lib.hid hb1; go_simp); (try (go_bits; try go_simp)); (try (rw [if_pos (by omega)]; try go_simp)); (first | done | (fail) | (with_reducible rfl) | exact rfl)))
                      simp only [Act.put, List.setIfInBounds_toArray, List.set_cons_zero, List.set_cons_succ]
                      refine WT_one 6 rfl (by kernel_rfl) ?_
                      unfold stepT
                      go_wp2_with fail
                      refine (HFI.out _).mono ?_
                      rintro e x1 ⟨aF, bF, vF, rfl, hvF, hb, -⟩
                      have HVF := Lib.hid hvF
                      have hbd := Lib.hid (hb.mono T.out.size)
                      replace T := Lib.hid (T.out.trans hbd.out)
                      clear hb hvF
                      go_wp2_with fail
                      refine ⟨hbd.out, ?_⟩
                      clear hbd
                      refine WT_one 7 rfl (by kernel_rfl) ?_
                      unfold stepT
                      go_wp2_with fail
                      refine (HAD.out _ _ _ _ HVF.out (HVA.out.to T.out)).mono ?_
                      rintro e x2 ⟨aS, bS, vS, rfl, hvS, hb, -⟩
                      have HVS := Lib.hid hvS
                      have hbd := Lib.hid (hb.mono T.out.size)
                      replace T := Lib.hid (T.out.trans hbd.out)
                      clear hb hvS
                      go_wp2_with fail
                      refine ⟨hbd.out, ?_⟩
                      clear hbd
                      refine WT_one 11 rfl (by kernel_rfl) ?_
                      unfold stepT
                      go_wp2_with fail
                      refine (HSPR.out _ k hlt (bThen hBk.out T.out)).mono ?_
                      rintro e x3 ⟨aP, bP, vP, rfl, hvP, hb, -⟩
                      have HVP := Lib.hid hvP
                      replace HVS := Lib.hid (HVS.out.to hb)
                      have hbd := Lib.hid (hb.mono T.out.size)
                      replace T := Lib.hid (T.out.trans hbd.out)
                      clear hb hvP
                      go_wp2_with fail
                      refine ⟨hbd.out, ?_⟩
                      clear hbd
                      refine WT_one 12 rfl (by kernel_rfl) ?_
                      unfold stepT
                      go_wp2_with fail
                      refine (HCM.out _ _ _ _ _ _ _ HVS.out HVP.out).mono ?_
                      rintro e x4 ⟨rfl, hb⟩
                      have hbd := Lib.hid (hb.mono T.out.size)
                      replace T := Lib.hid (T.out.trans hbd.out)
                      clear hb
                      go_wp2_with fail
                      refine ⟨hbd.out, ?_⟩
                      clear hbd
                      refine WT_one 13 rfl (by kernel_rfl) ?_
                      unfold stepT
                      go_wp2_with fail
                      refine ⟨Below.refl _ _, ?_⟩
                      refine WT_done (by kernel_rfl) ?_
                      have hBZ := Lib.hid (bThen hBk.out T.out)
                      clear T
                      go_wp2_with fail
                      go_roundw
                      case rel => exact ⟨k + 1, by omega, by go_num, Lib.hid (hE.out.trans (eachR_step hlt HNZ.out)), hBZ⟩
                      case measure => simp [intOf]; omega
                    · have hsb : (sg != 0) = true := by simpa using hs0
                      have HNZ := Lib.hid (HNB.out k (fun h => hs0 (HLQ.out.2 h)))
                      clear hs0
                      go_upto_region 21 with (fail)
                      refine wp_region_tree (by kernel_rfl) (fun wd hwd => ?_)
                      have T := Lib.hid hwd
                      clear hwd
                      refine WT_yes 0 rfl (by kernel_rfl) (fun _ _ _ _ _ h => h) (by rfl) ?_; apply Exists.intro; refine ⟨fun w1 hb1 => ?_, ?_⟩; (focus (((obtain ⟨-, kb, -⟩ := KB.out.to (T.out.trans hb1)); have hb1 := Lib.hid hb1; go_simp); (try (go_bits; try go_simp)); (try (rw [if_pos (by omega)]; try go_simp)); (first | done | (fail) | (with_reducible rfl) | exact rfl)))
                      simp only [Act.put, List.setIfInBounds_toArray, List.set_cons_zero, List.set_cons_succ]
                      refine WT_yes 1 rfl (by kernel_rfl) (fun _ _ _ _ _ h => h) (by rfl) ?_; apply Exists.intro; refine ⟨fun w1 hb1 => ?_, ?_⟩; (focus ((skip; have hb1 := Lib.hid hb1; go_simp); (try (go_bits; try go_simp)); (try (rw [if_pos (by omega)]; try go_simp)); (first | done | (fail) | (with_reducible rfl) | exact rfl)))
                      simp only [Act.put, List.setIfInBounds_toArray, List.set_cons_zero, List.set_cons_succ]
                      refine WT_yes 2 rfl (by kernel_rfl) (fun _ _ _ _ _ h => h) (by rfl) ?_; apply Exists.intro; refine ⟨fun w1 hb1 => ?_, ?_⟩; (focus (((obtain ⟨-, k3, -⟩ := K3k.out.to (T.out.trans hb1)); have hb1 := Lib.hid hb1; go_simp); (try (go_bits; try go_simp)); (try (rw [if_pos (by omega)]; try go_simp)); (first | done | (fail) | (with_reducible rfl) | exact rfl)))
                      simp only [Act.put, List.setIfInBounds_toArray, List.set_cons_zero, List.set_cons_succ]
                      refine WT_yes 3 rfl (by kernel_rfl) (fun _ _ _ _ _ h => h) (by rfl) ?_; apply Exists.intro; refine ⟨fun w1 hb1 => ?_, ?_⟩; (focus ((skip; have hb1 := Lib.hid hb1; go_simp); (try (go_bits; try go_simp)); (try (rw [if_pos (by omega)]; try go_simp)); (first | done | (fail) | (with_reducible rfl) | exact rfl)))
                      simp only [Act.put, List.setIfInBounds_toArray, List.set_cons_zero, List.set_cons_succ]
                      refine WT_yes 4 rfl (by kernel_rfl) (fun _ _ _ _ _ h => h) (by rfl) ?_; apply Exists.intro; refine ⟨fun w1 hb1 => ?_, ?_⟩; (focus ((skip; have hb1 := Lib.hid hb1; go_simp); (try (go_bits; try go_simp)); (try (rw [if_pos (by omega)]; try go_simp)); (first | done | (fail) | (with_reducible rfl) | exact rfl)))
                      simp only [Act.put, List.setIfInBounds_toArray, List.set_cons_zero, List.set_cons_succ]
                      refine WT_yes 5 rfl (by kernel_rfl) (fun _ _ _ _ _ h => h) (by rfl) ?_; apply Exists.intro; refine ⟨fun w1 hb1 => ?_, ?_⟩; (focus (((have kf := ((HBk.out.trans ((T.out.trans hb1).mono (show w.heap.size ≤ w7.heap.size by omega))).cell (p := ⟨b2', o2' + k, none⟩) hb2').trans KF2.out); have hb1 := Lib.hid hb1; go_simp); (try (go_bits; try go_simp)); (try (rw [if_pos (by omega)]; try go_simp)); (first | done | (fail) | (with_reducible rfl) | exact rfl)))
                      simp only [Act.put, List.setIfInBounds_toArray, List.set_cons_zero, List.set_cons_succ]
                      refine WT_yes 8 rfl (by kernel_rfl) (fun _ _ _ _ _ h => h) (by rfl) ?_; apply Exists.intro; refine ⟨fun w1 hb1 => ?_, ?_⟩; (focus (((obtain ⟨-, k3, -⟩ := K3k.out.to (T.out.trans hb1)); have hb1 := Lib.hid hb1; go_simp); (try (go_bits; try go_simp)); (try (rw [if_pos (by omega)]; try go_simp)); (first | done | (fail) | (with_reducible rfl) | exact rfl)))
                      simp only [Act.put, List.setIfInBounds_toArray, List.set_cons_zero, List.set_cons_succ]
                      refine WT_yes 9 rfl (by kernel_rfl) (fun _ _ _ _ _ h => h) (by rfl) ?_; apply Exists.intro; refine ⟨fun w1 hb1 => ?_, ?_⟩; (focus ((skip; have hb1 := Lib.hid hb1; go_simp); (try (go_bits; try go_simp)); (try (rw [if_pos (by omega)]; try go_simp)); (first | done | (fail) | (with_reducible rfl) | exact rfl)))
                      simp only [Act.put, List.setIfInBounds_toArray, List.set_cons_zero, List.set_cons_succ]
                      refine WT_yes 10 rfl (by kernel_rfl) (fun _ _ _ _ _ h => h) (by rfl) ?_; apply Exists.intro; refine ⟨fun w1 hb1 => ?_, ?_⟩; (focus ((skip; have hb1 := Lib.hid hb1; go_simp); (try (go_bits; try go_simp)); (try (rw [if_pos (by omega)]; try go_simp)); (first | done | (fail) | (with_reducible rfl) | exact rfl)))
                      simp only [Act.put, List.setIfInBounds_toArray, List.set_cons_zero, List.set_cons_succ]
                      refine WT_one 6 rfl (by kernel_rfl) ?_
                      unfold stepT
                      go_wp2_with fail
                      refine (HFI.out _).mono ?_
                      rintro e x1 ⟨aF, bF, vF, rfl, hvF, hb, -⟩
                      have HVF := Lib.hid hvF
                      have hbd := Lib.hid (hb.mono T.out.size)
                      replace T := Lib.hid (T.out.trans hbd.out)
                      clear hb hvF
                      go_wp2_with fail
                      refine ⟨hbd.out, ?_⟩
                      clear hbd
                      refine WT_one 7 rfl (by kernel_rfl) ?_
                      unfold stepT
                      go_wp2_with fail
                      refine (HAD.out _ _ _ _ HVF.out (HVA.out.to T.out)).mono ?_
                      rintro e x2 ⟨aS, bS, vS, rfl, hvS, hb, -⟩
                      have HVS := Lib.hid hvS
                      have hbd := Lib.hid (hb.mono T.out.size)
                      replace T := Lib.hid (T.out.trans hbd.out)
                      clear hb hvS
                      go_wp2_with fail
                      refine ⟨hbd.out, ?_⟩
                      clear hbd
                      refine WT_one 11 rfl (by kernel_rfl) ?_
                      unfold stepT
                      go_wp2_with fail
                      refine (HSPR.out _ k hlt (bThen hBk.out T.out)).mono ?_
                      rintro e x3 ⟨aP, bP, vP, rfl, hvP, hb, -⟩
                      have HVP := Lib.hid hvP
                      replace HVS := Lib.hid (HVS.out.to hb)
                      have hbd := Lib.hid (hb.mono T.out.size)
                      replace T := Lib.hid (T.out.trans hbd.out)
                      clear hb hvP
                      go_wp2_with fail
                      refine ⟨hbd.out, ?_⟩
                      clear hbd
                      refine WT_one 12 rfl (by kernel_rfl) ?_
                      unfold stepT
                      go_wp2_with fail
                      refine (HCM.out _ _ _ _ _ _ _ HVS.out HVP.out).mono ?_
                      rintro e x4 ⟨rfl, hb⟩
                      have hbd := Lib.hid (hb.mono T.out.size)
                      replace T := Lib.hid (T.out.trans hbd.out)
                      clear hb
                      go_wp2_with fail
                      refine ⟨hbd.out, ?_⟩
                      clear hbd
                      refine WT_one 13 rfl (by kernel_rfl) ?_
                      unfold stepT
                      go_wp2_with fail
                      refine ⟨Below.refl _ _, ?_⟩
                      refine WT_done (by kernel_rfl) ?_
                      have hBZ := Lib.hid (bThen hBk.out T.out)
                      clear T
                      go_wp2_with fail
                      go_ret2
                      have hrr : r = ((k : Int), 19) := by rw [← HQE.out, hE.out, eachR_stop hlt (by rw [HNZ.out]; decide), HNZ.out]
                      rw [hrr]
                      exact ⟨rfl, bThen HB.out hBZ.out⟩
                  · have hq : ((k : Int) == (nd : Int)) = false := by rw [beq_eq_false_iff_ne]; omega
                    have hq2 : ¬ (k : Int) = nd := by omega
                    by_cases hup : k + 1 < ks.length
                    · have eQ : abvQ ks l F nd k = sprQ ks l (k + 1) := by unfold abvQ; rw [if_neg hnd2, if_pos (by have := HLL.out; omega)]
                      have hqu : decide ((k : Int) + 1 < (ks.length : Int)) = true := decide_eq_true (by omega)
                      have HDU := Lib.hid (HDG.out (k + 1) hup)
                      obtain ⟨-, k3, -⟩ := K3k.out
                      clear hnd2
                      go_wp2_with fail
                      clear k3
                      refine (HSPU.out _ k hup hBk.out).mono ?_
                      rintro e w6 ⟨aN, bN, vN, rfl, hvN, hb, hlN⟩
                      have HVN := Lib.hid hvN
                      have HLN1 := Lib.hid (hlN (fun b => b ≠ B) (fun b hb => by omega) (fun i hi => by cases hi))
                      replace hBk := Lib.hid (bThen hBk.out hb)
                      replace K3k := Lib.hid (K3k.out.to hb)
                      replace K5k := Lib.hid (K5k.out.to hb)
                      replace HBk := Lib.hid (bThen HBk.out hb)
                      replace KB := Lib.hid (KB.out.to hb)
                      have hB6 : w5.heap.size ≤ w6.heap.size := hb.size
                      clear hb hlN HVA
                      obtain ⟨sN, nN, cN, sM, nM, cM, rfl, -, -⟩ := hvN
                      obtain ⟨hkb, kb, fb⟩ := KB.out
                      go_upto_region 21 with (fail)
                      clear kb fb
                      have KB' : Hid (Blk ((((w6.setCell ⟨B, 0, none⟩ (.int .i64 sN)).setCell ⟨B, 1, none⟩ (.slice aN nN cN)).setCell ⟨B, 2, none⟩ (.int .i64 sM)).setCell ⟨B, 3, none⟩ (.slice bN nM cM)) B #[.int .i64 sN, .slice aN nN cN, .int .i64 sM, .slice bN nM cM]) := Lib.hid ((((KB.out.set 0 (.int .i64 sN)).set 1 (.slice aN nN cN)).set 2 (.int .i64 sM)).set 3 (.slice bN nM cM))
                      have HVA := Lib.hid ((((HVN.out.set1 HLN1.out.1 HLN1.out.2 (i := 0) (.int .i64 sN)).set1 HLN1.out.1 HLN1.out.2 (i := 1) (.slice aN nN cN)).set1 HLN1.out.1 HLN1.out.2 (i := 2) (.int .i64 sM)).set1 HLN1.out.1 HLN1.out.2 (i := 3) (.slice bN nM cM))
                      have hbs : Hid (Below wq.heap.size w6 ((((w6.setCell ⟨B, 0, none⟩ (.int .i64 sN)).setCell ⟨B, 1, none⟩ (.slice aN nN cN)).setCell ⟨B, 2, none⟩ (.int .i64 sM)).setCell ⟨B, 3, none⟩ (.slice bN nM cM))) := Lib.hid (((((Below.refl _ _).setCell (p := ⟨B, 0, none⟩) (by dsimp only; omega) _).setCell (p := ⟨B, 1, none⟩) (by dsimp only; omega) _).setCell (p := ⟨B, 2, none⟩) (by dsimp only; omega) _).setCell (p := ⟨B, 3, none⟩) (by dsimp only; omega) _)
                      replace K3k := Lib.hid (K3.out.to (hBk.out.trans hbs.out))
                      replace HBk := Lib.hid (HBk.out.trans (hbs.out.mono (by omega)))
                      replace hBk := Lib.hid (hBk.out.trans hbs.out)
                      have hszw : ((((w6.setCell ⟨B, 0, none⟩ (.int .i64 sN)).setCell ⟨B, 1, none⟩ (.slice aN nN cN)).setCell ⟨B, 2, none⟩ (.int .i64 sM)).setCell ⟨B, 3, none⟩ (.slice bN nM cM)).heap.size = w6.heap.size := by simp [World.setCell]
                      obtain ⟨w7, hw7⟩ : ∃ w7, (((w6.setCell ⟨B, 0, none⟩ (.int .i64 sN)).setCell ⟨B, 1, none⟩ (.slice aN nN cN)).setCell ⟨B, 2, none⟩ (.int .i64 sM)).setCell ⟨B, 3, none⟩ (.slice bN nM cM) = w7 := ⟨_, rfl⟩
                      rw [hw7] at KB' HVA K3k HBk hBk hszw ⊢
                      clear hw7 hbs HVN HLN1 KB hkb
                      have KB := KB'
                      clear KB' 
                      have HAD := Lib.hid (fun W' aF bF vF (hF : RR W' aF bF vF (f, 1)) (hA : RR W' aN bN (.agg #[.int .i64 sN, .slice aN nN cN, .int .i64 sM, .slice bN nM cM]) (sprQ ks l (k + 1))) => RatioAdd_any (sprQ ks l (k + 1)) (f, 1) aN bN aF bF _ vF W' hA hF (Nat.le_trans HDU.out.1 (by decide)) (Nat.le_trans HDU.out.2.1 (by decide)) (Nat.le_trans (dg_small 3 (show f.natAbs < 1000000000 ^ 3 by omega)) (by decide)) (Nat.le_trans (dg_small 3 (show (1 : Int).natAbs < 1000000000 ^ 3 by decide)) (by decide)) HDU.out.2.2 (show (0 : Int) < 1 by decide))
                      have HAQ := Lib.hid (addQ_dg (f := f) HDU.out.1 HDU.out.2.1 (by omega))
                      have HCM := Lib.hid (fun W' aS bS aP bP vS vP (hS : RR W' aS bS vS (rAdd (sprQ ks l (k + 1)) (f, 1))) (hP : RR W' aP bP vP (sprQ ks l k)) => RatioCmp_any _ _ aS bS aP bP vS vP W' hS hP (Nat.le_trans HAQ.out.1 (by decide)) (Nat.le_trans HAQ.out.2 (by decide)) (Nat.le_trans HDK.out.1 (by decide)) (Nat.le_trans HDK.out.2.1 (by decide)))
                      have HLQ : Hid (cmpQ (rAdd (sprQ ks l (k + 1)) (f, 1)) (sprQ ks l k) = 0 ↔ nbE ks fs l F nd k = 0) := Lib.hid (by have h := HLK.out; rw [eQ] at h; exact h)
                      obtain ⟨sg, hsg⟩ : ∃ s, cmpQ (rAdd (sprQ ks l (k + 1)) (f, 1)) (sprQ ks l k) = s := ⟨_, rfl⟩
                      have hsg2 : ((rAdd (sprQ ks l (k + 1)) (f, 1)).1 * (sprQ ks l k).2 - (sprQ ks l k).1 * (rAdd (sprQ ks l (k + 1)) (f, 1)).2).sign = sg := hsg
                      rw [hsg2] at HCM
                      rw [hsg] at HLQ
                      clear hsg hsg2 eQ HLK HAQ
                      by_cases hs0 : sg = 0
                      · have hsb : (sg != 0) = false := by rw [hs0]; rfl
                        have HNZ := Lib.hid (HLQ.out.1 hs0)
                        clear hs0
                        go_upto_region 21 with (fail)
                        refine wp_region_tree (by kernel_rfl) (fun wd hwd => ?_)
                        have T := Lib.hid hwd
                        clear hwd
                        refine WT_yes 0 rfl (by kernel_rfl) (fun _ _ _ _ _ h => h) (by rfl) ?_; apply Exists.intro; refine ⟨fun w1 hb1 => ?_, ?_⟩; (focus (((obtain ⟨-, kb, -⟩ := KB.out.to (T.out.trans hb1)); have hb1 := Lib.hid hb1; go_simp); (try (go_bits; try go_simp)); (try (rw [if_pos (by omega)]; try go_simp)); (first | done | (fail) | (with_reducible rfl) | exact rfl)))
                        simp only [Act.put, List.setIfInBounds_toArray, List.set_cons_zero, List.set_cons_succ]
                        refine WT_yes 1 rfl (by kernel_rfl) (fun _ _ _ _ _ h => h) (by rfl) ?_; apply Exists.intro; refine ⟨fun w1 hb1 => ?_, ?_⟩; (focus ((skip; have hb1 := Lib.hid hb1; go_simp); (try (go_bits; try go_simp)); (try (rw [if_pos (by omega)]; try go_simp)); (first | done | (fail) | (with_reducible rfl) | exact rfl)))
                        simp only [Act.put, List.setIfInBounds_toArray, List.set_cons_zero, List.set_cons_succ]
                        refine WT_yes 2 rfl (by kernel_rfl) (fun _ _ _ _ _ h => h) (by rfl) ?_; apply Exists.intro; refine ⟨fun w1 hb1 => ?_, ?_⟩; (focus (((obtain ⟨-, k3, -⟩ := K3k.out.to (T.out.trans hb1)); have hb1 := Lib.hid hb1; go_simp); (try (go_bits; try go_simp)); (try (rw [if_pos (by omega)]; try go_simp)); (first | done | (fail) | (with_reducible rfl) | exact rfl)))
                        simp only [Act.put, List.setIfInBounds_toArray, List.set_cons_zero, List.set_cons_succ]
                        refine WT_yes 3 rfl (by kernel_rfl) (fun _ _ _ _ _ h => h) (by rfl) ?_; apply Exists.intro; refine ⟨fun w1 hb1 => ?_, ?_⟩; (focus ((skip; have hb1 := Lib.hid hb1; go_simp); (try (go_bits; try go_simp)); (try (rw [if_pos (by omega)]; try go_simp)); (first | done | (fail) | (with_reducible rfl) | exact rfl)))
                        simp only [Act.put, List.setIfInBounds_toArray, List.set_cons_zero, List.set_cons_succ]
                        refine WT_yes 4 rfl (by kernel_rfl) (fun _ _ _ _ _ h => h) (by rfl) ?_; apply Exists.intro; refine ⟨fun w1 hb1 => ?_, ?_⟩; (focus ((skip; have hb1 := Lib.hid hb1; go_simp); (try (go_bits; try go_simp)); (try (rw [if_pos (by omega)]; try go_simp)); (first | done | (fail) | (with_reducible rfl) | exact rfl)))
                        simp only [Act.put, List.setIfInBounds_toArray, List.set_cons_zero, List.set_cons_succ]
                        refine WT_yes 5 rfl (by kernel_rfl) (fun _ _ _ _ _ h => h) (by rfl) ?_; apply Exists.intro; refine ⟨fun w1 hb1 => ?_, ?_⟩; (focus (((have kf := ((HBk.out.trans ((T.out.trans hb1).mono (show w.heap.size ≤ w7.heap.size by omega))).cell (p := ⟨b2', o2' + k, none⟩) hb2').trans KF2.out); have hb1 := Lib.hid hb1; go_simp); (try (go_bits; try go_simp)); (try (rw [if_pos (by omega)]; try go_simp)); (first | done | (fail) | (with_reducible rfl) | exact rfl)))
                        simp only [Act.put, List.setIfInBounds_toArray, List.set_cons_zero, List.set_cons_succ]
                        refine WT_yes 8 rfl (by kernel_rfl) (fun _ _ _ _ _ h => h) (by rfl) ?_; apply Exists.intro; refine ⟨fun w1 hb1 => ?_, ?_⟩; (focus (((obtain ⟨-, k3, -⟩ := K3k.out.to (T.out.trans hb1)); have hb1 := Lib.hid hb1; go_simp); (try (go_bits; try go_simp)); (try (rw [if_pos (by omega)]; try go_simp)); (first | done | (fail) | (with_reducible rfl) | exact rfl)))
                        simp only [Act.put, List.setIfInBounds_toArray, List.set_cons_zero, List.set_cons_succ]
                        refine WT_yes 9 rfl (by kernel_rfl) (fun _ _ _ _ _ h => h) (by rfl) ?_; apply Exists.intro; refine ⟨fun w1 hb1 => ?_, ?_⟩; (focus ((skip; have hb1 := Lib.hid hb1; go_simp); (try (go_bits; try go_simp)); (try (rw [if_pos (by omega)]; try go_simp)); (first | done | (fail) | (with_reducible rfl) | exact rfl)))
                        simp only [Act.put, List.setIfInBounds_toArray, List.set_cons_zero, List.set_cons_succ]
                        refine WT_yes 10 rfl (by kernel_rfl) (fun _ _ _ _ _ h => h) (by rfl) ?_; apply Exists.intro; refine ⟨fun w1 hb1 => ?_, ?_⟩; (focus ((skip; have hb1 := Lib.hid hb1; go_simp); (try (go_bits; try go_simp)); (try (rw [if_pos (by omega)]; try go_simp)); (first | done | (fail) | (with_reducible rfl) | exact rfl)))
                        simp only [Act.put, List.setIfInBounds_toArray, List.set_cons_zero, List.set_cons_succ]
                        refine WT_one 6 rfl (by kernel_rfl) ?_
                        unfold stepT
                        go_wp2_with fail
                        refine (HFI.out _).mono ?_
                        rintro e x1 ⟨aF, bF, vF, rfl, hvF, hb, -⟩
                        have HVF := Lib.hid hvF
                        have hbd := Lib.hid (hb.mono T.out.size)
                        replace T := Lib.hid (T.out.trans hbd.out)
                        clear hb hvF
                        go_wp2_with fail
                        refine ⟨hbd.out, ?_⟩
                        clear hbd
                        refine WT_one 7 rfl (by kernel_rfl) ?_
                        unfold stepT
                        go_wp2_with fail
                        refine (HAD.out _ _ _ _ HVF.out (HVA.out.to T.out)).mono ?_
                        rintro e x2 ⟨aS, bS, vS, rfl, hvS, hb, -⟩
                        have HVS := Lib.hid hvS
                        have hbd := Lib.hid (hb.mono T.out.size)
                        replace T := Lib.hid (T.out.trans hbd.out)
                        clear hb hvS
                        go_wp2_with fail
                        refine ⟨hbd.out, ?_⟩
                        clear hbd
                        refine WT_one 11 rfl (by kernel_rfl) ?_
                        unfold stepT
                        go_wp2_with fail
                        refine (HSPR.out _ k hlt (bThen hBk.out T.out)).mono ?_
                        rintro e x3 ⟨aP, bP, vP, rfl, hvP, hb, -⟩
                        have HVP := Lib.hid hvP
                        replace HVS := Lib.hid (HVS.out.to hb)
                        have hbd := Lib.hid (hb.mono T.out.size)
                        replace T := Lib.hid (T.out.trans hbd.out)
                        clear hb hvP
                        go_wp2_with fail
                        refine ⟨hbd.out, ?_⟩
                        clear hbd
                        refine WT_one 12 rfl (by kernel_rfl) ?_
                        unfold stepT
                        go_wp2_with fail
                        refine (HCM.out _ _ _ _ _ _ _ HVS.out HVP.out).mono ?_
                        rintro e x4 ⟨rfl, hb⟩
                        have hbd := Lib.hid (hb.mono T.out.size)
                        replace T := Lib.hid (T.out.trans hbd.out)
                        clear hb
                        go_wp2_with fail
                        refine ⟨hbd.out, ?_⟩
                        clear hbd
                        refine WT_one 13 rfl (by kernel_rfl) ?_
                        unfold stepT
                        go_wp2_with fail
                        refine ⟨Below.refl _ _, ?_⟩
                        refine WT_done (by kernel_rfl) ?_
                        have hBZ := Lib.hid (bThen hBk.out T.out)
                        clear T
                        go_wp2_with fail
                        go_roundw
                        case rel => exact ⟨k + 1, by omega, by go_num, Lib.hid (hE.out.trans (eachR_step hlt HNZ.out)), hBZ⟩
                        case measure => simp [intOf]; omega
                      · have hsb : (sg != 0) = true := by simpa using hs0
                        have HNZ := Lib.hid (HNB.out k (fun h => hs0 (HLQ.out.2 h)))
                        clear hs0
                        go_upto_region 21 with (fail)
                        refine wp_region_tree (by kernel_rfl) (fun wd hwd => ?_)
                        have T := Lib.hid hwd
                        clear hwd
                        refine WT_yes 0 rfl (by kernel_rfl) (fun _ _ _ _ _ h => h) (by rfl) ?_; apply Exists.intro; refine ⟨fun w1 hb1 => ?_, ?_⟩; (focus (((obtain ⟨-, kb, -⟩ := KB.out.to (T.out.trans hb1)); have hb1 := Lib.hid hb1; go_simp); (try (go_bits; try go_simp)); (try (rw [if_pos (by omega)]; try go_simp)); (first | done | (fail) | (with_reducible rfl) | exact rfl)))
                        simp only [Act.put, List.setIfInBounds_toArray, List.set_cons_zero, List.set_cons_succ]
                        refine WT_yes 1 rfl (by kernel_rfl) (fun _ _ _ _ _ h => h) (by rfl) ?_; apply Exists.intro; refine ⟨fun w1 hb1 => ?_, ?_⟩; (focus ((skip; have hb1 := Lib.hid hb1; go_simp); (try (go_bits; try go_simp)); (try (rw [if_pos (by omega)]; try go_simp)); (first | done | (fail) | (with_reducible rfl) | exact rfl)))
                        simp only [Act.put, List.setIfInBounds_toArray, List.set_cons_zero, List.set_cons_succ]
                        refine WT_yes 2 rfl (by kernel_rfl) (fun _ _ _ _ _ h => h) (by rfl) ?_; apply Exists.intro; refine ⟨fun w1 hb1 => ?_, ?_⟩; (focus (((obtain ⟨-, k3, -⟩ := K3k.out.to (T.out.trans hb1)); have hb1 := Lib.hid hb1; go_simp); (try (go_bits; try go_simp)); (try (rw [if_pos (by omega)]; try go_simp)); (first | done | (fail) | (with_reducible rfl) | exact rfl)))
                        simp only [Act.put, List.setIfInBounds_toArray, List.set_cons_zero, List.set_cons_succ]
                        refine WT_yes 3 rfl (by kernel_rfl) (fun _ _ _ _ _ h => h) (by rfl) ?_; apply Exists.intro; refine ⟨fun w1 hb1 => ?_, ?_⟩; (focus ((skip; have hb1 := Lib.hid hb1; go_simp); (try (go_bits; try go_simp)); (try (rw [if_pos (by omega)]; try go_simp)); (first | done | (fail) | (with_reducible rfl) | exact rfl)))
                        simp only [Act.put, List.setIfInBounds_toArray, List.set_cons_zero, List.set_cons_succ]
                        refine WT_yes 4 rfl (by kernel_rfl) (fun _ _ _ _ _ h => h) (by rfl) ?_; apply Exists.intro; refine ⟨fun w1 hb1 => ?_, ?_⟩; (focus ((skip; have hb1 := Lib.hid hb1; go_simp); (try (go_bits; try go_simp)); (try (rw [if_pos (by omega)]; try go_simp)); (first | done | (fail) | (with_reducible rfl) | exact rfl)))
                        simp only [Act.put, List.setIfInBounds_toArray, List.set_cons_zero, List.set_cons_succ]
                        refine WT_yes 5 rfl (by kernel_rfl) (fun _ _ _ _ _ h => h) (by rfl) ?_; apply Exists.intro; refine ⟨fun w1 hb1 => ?_, ?_⟩; (focus (((have kf := ((HBk.out.trans ((T.out.trans hb1).mono (show w.heap.size ≤ w7.heap.size by omega))).cell (p := ⟨b2', o2' + k, none⟩) hb2').trans KF2.out); have hb1 := Lib.hid hb1; go_simp); (try (go_bits; try go_simp)); (try (rw [if_pos (by omega)]; try go_simp)); (first | done | (fail) | (with_reducible rfl) | exact rfl)))
                        simp only [Act.put, List.setIfInBounds_toArray, List.set_cons_zero, List.set_cons_succ]
                        refine WT_yes 8 rfl (by kernel_rfl) (fun _ _ _ _ _ h => h) (by rfl) ?_; apply Exists.intro; refine ⟨fun w1 hb1 => ?_, ?_⟩; (focus (((obtain ⟨-, k3, -⟩ := K3k.out.to (T.out.trans hb1)); have hb1 := Lib.hid hb1; go_simp); (try (go_bits; try go_simp)); (try (rw [if_pos (by omega)]; try go_simp)); (first | done | (fail) | (with_reducible rfl) | exact rfl)))
                        simp only [Act.put, List.setIfInBounds_toArray, List.set_cons_zero, List.set_cons_succ]
                        refine WT_yes 9 rfl (by kernel_rfl) (fun _ _ _ _ _ h => h) (by rfl) ?_; apply Exists.intro; refine ⟨fun w1 hb1 => ?_, ?_⟩; (focus ((skip; have hb1 := Lib.hid hb1; go_simp); (try (go_bits; try go_simp)); (try (rw [if_pos (by omega)]; try go_simp)); (first | done | (fail) | (with_reducible rfl) | exact rfl)))
                        simp only [Act.put, List.setIfInBounds_toArray, List.set_cons_zero, List.set_cons_succ]
                        refine WT_yes 10 rfl (by kernel_rfl) (fun _ _ _ _ _ h => h) (by rfl) ?_; apply Exists.intro; refine ⟨fun w1 hb1 => ?_, ?_⟩; (focus ((skip; have hb1 := Lib.hid hb1; go_simp); (try (go_bits; try go_simp)); (try (rw [if_pos (by omega)]; try go_simp)); (first | done | (fail) | (with_reducible rfl) | exact rfl)))
                        simp only [Act.put, List.setIfInBounds_toArray, List.set_cons_zero, List.set_cons_succ]
                        refine WT_one 6 rfl (by kernel_rfl) ?_
                        unfold stepT
                        go_wp2_with fail
                        refine (HFI.out _).mono ?_
                        rintro e x1 ⟨aF, bF, vF, rfl, hvF, hb, -⟩
                        have HVF := Lib.hid hvF
                        have hbd := Lib.hid (hb.mono T.out.size)
                        replace T := Lib.hid (T.out.trans hbd.out)
                        clear hb hvF
                        go_wp2_with fail
                        refine ⟨hbd.out, ?_⟩
                        clear hbd
                        refine WT_one 7 rfl (by kernel_rfl) ?_
                        unfold stepT
                        go_wp2_with fail
                        refine (HAD.out _ _ _ _ HVF.out (HVA.out.to T.out)).mono ?_
                        rintro e x2 ⟨aS, bS, vS, rfl, hvS, hb, -⟩
                        have HVS := Lib.hid hvS
                        have hbd := Lib.hid (hb.mono T.out.size)
                        replace T := Lib.hid (T.out.trans hbd.out)
                        clear hb hvS
                        go_wp2_with fail
                        refine ⟨hbd.out, ?_⟩
                        clear hbd
                        refine WT_one 11 rfl (by kernel_rfl) ?_
                        unfold stepT
                        go_wp2_with fail
                        refine (HSPR.out _ k hlt (bThen hBk.out T.out)).mono ?_
                        rintro e x3 ⟨aP, bP, vP, rfl, hvP, hb, -⟩
                        have HVP := Lib.hid hvP
                        replace HVS := Lib.hid (HVS.out.to hb)
                        have hbd := Lib.hid (hb.mono T.out.size)
                        replace T := Lib.hid (T.out.trans hbd.out)
                        clear hb hvP
                        go_wp2_with fail
                        refine ⟨hbd.out, ?_⟩
                        clear hbd
                        refine WT_one 12 rfl (by kernel_rfl) ?_
                        unfold stepT
                        go_wp2_with fail
                        refine (HCM.out _ _ _ _ _ _ _ HVS.out HVP.out).mono ?_
                        rintro e x4 ⟨rfl, hb⟩
                        have hbd := Lib.hid (hb.mono T.out.size)
                        replace T := Lib.hid (T.out.trans hbd.out)
                        clear hb
                        go_wp2_with fail
                        refine ⟨hbd.out, ?_⟩
                        clear hbd
                        refine WT_one 13 rfl (by kernel_rfl) ?_
                        unfold stepT
                        go_wp2_with fail
                        refine ⟨Below.refl _ _, ?_⟩
                        refine WT_done (by kernel_rfl) ?_
                        have hBZ := Lib.hid (bThen hBk.out T.out)
                        clear T
                        go_wp2_with fail
                        go_ret2
                        have hrr : r = ((k : Int), 19) := by rw [← HQE.out, hE.out, eachR_stop hlt (by rw [HNZ.out]; decide), HNZ.out]
                        rw [hrr]
                        exact ⟨rfl, bThen HB.out hBZ.out⟩
                    · have eQ : abvQ ks l F nd k = (0, 1) := by unfold abvQ; rw [if_neg hnd2, if_neg (by have := HLL.out; omega)]
                      have hqu : decide ((k : Int) + 1 < (ks.length : Int)) = false := decide_eq_false (by omega)
                      clear hnd2
                      have HAD := Lib.hid (fun W' aF bF vF (hF : RR W' aF bF vF (f, 1)) (hA : RR W' aA bA (.agg #[.int .i64 sA, .slice aA nA cA, .int .i64 sB, .slice bA nB cB]) ((0 : Int), (1 : Int))) => RatioAdd_any ((0 : Int), (1 : Int)) (f, 1) aA bA aF bF _ vF W' hA hF (Nat.le_trans (show (dg ((0 : Int), (1 : Int)).1).length ≤ 6 ∧ (dg ((0 : Int), (1 : Int)).2).length ≤ 6 ∧ 0 < ((0 : Int), (1 : Int)).2 from ⟨Nat.le_trans (dg_small 3 (show (0 : Int).natAbs < 1000000000 ^ 3 by decide)) (by decide), Nat.le_trans (dg_small 3 (show (1 : Int).natAbs < 1000000000 ^ 3 by decide)) (by decide), (show (0 : Int) < 1 by decide)⟩).1 (by decide)) (Nat.le_trans (show (dg ((0 : Int), (1 : Int)).1).length ≤ 6 ∧ (dg ((0 : Int), (1 : Int)).2).length ≤ 6 ∧ 0 < ((0 : Int), (1 : Int)).2 from ⟨Nat.le_trans (dg_small 3 (show (0 : Int).natAbs < 1000000000 ^ 3 by decide)) (by decide), Nat.le_trans (dg_small 3 (show (1 : Int).natAbs < 1000000000 ^ 3 by decide)) (by decide), (show (0 : Int) < 1 by decide)⟩).2.1 (by decide)) (Nat.le_trans (dg_small 3 (show f.natAbs < 1000000000 ^ 3 by omega)) (by decide)) (Nat.le_trans (dg_small 3 (show (1 : Int).natAbs < 1000000000 ^ 3 by decide)) (by decide)) (show (dg ((0 : Int), (1 : Int)).1).length ≤ 6 ∧ (dg ((0 : Int), (1 : Int)).2).length ≤ 6 ∧ 0 < ((0 : Int), (1 : Int)).2 from ⟨Nat.le_trans (dg_small 3 (show (0 : Int).natAbs < 1000000000 ^ 3 by decide)) (by decide), Nat.le_trans (dg_small 3 (show (1 : Int).natAbs < 1000000000 ^ 3 by decide)) (by decide), (show (0 : Int) < 1 by decide)⟩).2.2 (show (0 : Int) < 1 by decide))
                      have HAQ := Lib.hid (addQ_dg (f := f) (show (dg ((0 : Int), (1 : Int)).1).length ≤ 6 ∧ (dg ((0 : Int), (1 : Int)).2).length ≤ 6 ∧ 0 < ((0 : Int), (1 : Int)).2 from ⟨Nat.le_trans (dg_small 3 (show (0 : Int).natAbs < 1000000000 ^ 3 by decide)) (by decide), Nat.le_trans (dg_small 3 (show (1 : Int).natAbs < 1000000000 ^ 3 by decide)) (by decide), (show (0 : Int) < 1 by decide)⟩).1 (show (dg ((0 : Int), (1 : Int)).1).length ≤ 6 ∧ (dg ((0 : Int), (1 : Int)).2).length ≤ 6 ∧ 0 < ((0 : Int), (1 : Int)).2 from ⟨Nat.le_trans (dg_small 3 (show (0 : Int).natAbs < 1000000000 ^ 3 by decide)) (by decide), Nat.le_trans (dg_small 3 (show (1 : Int).natAbs < 1000000000 ^ 3 by decide)) (by decide), (show (0 : Int) < 1 by decide)⟩).2.1 (by omega))
                      have HCM := Lib.hid (fun W' aS bS aP bP vS vP (hS : RR W' aS bS vS (rAdd ((0 : Int), (1 : Int)) (f, 1))) (hP : RR W' aP bP vP (sprQ ks l k)) => RatioCmp_any _ _ aS bS aP bP vS vP W' hS hP (Nat.le_trans HAQ.out.1 (by decide)) (Nat.le_trans HAQ.out.2 (by decide)) (Nat.le_trans HDK.out.1 (by decide)) (Nat.le_trans HDK.out.2.1 (by decide)))
                      have HLQ : Hid (cmpQ (rAdd ((0 : Int), (1 : Int)) (f, 1)) (sprQ ks l k) = 0 ↔ nbE ks fs l F nd k = 0) := Lib.hid (by have h := HLK.out; rw [eQ] at h; exact h)
                      obtain ⟨sg, hsg⟩ : ∃ s, cmpQ (rAdd ((0 : Int), (1 : Int)) (f, 1)) (sprQ ks l k) = s := ⟨_, rfl⟩
                      have hsg2 : ((rAdd ((0 : Int), (1 : Int)) (f, 1)).1 * (sprQ ks l k).2 - (sprQ ks l k).1 * (rAdd ((0 : Int), (1 : Int)) (f, 1)).2).sign = sg := hsg
                      rw [hsg2] at HCM
                      rw [hsg] at HLQ
                      clear hsg hsg2 eQ HLK HAQ
                      by_cases hs0 : sg = 0
                      · have hsb : (sg != 0) = false := by rw [hs0]; rfl
                        have HNZ := Lib.hid (HLQ.out.1 hs0)
                        clear hs0
                        go_upto_region 21 with (fail)
                        refine wp_region_tree (by kernel_rfl) (fun wd hwd => ?_)
                        have T := Lib.hid hwd
                        clear hwd
                        refine WT_yes 0 rfl (by kernel_rfl) (fun _ _ _ _ _ h => h) (by rfl) ?_; apply Exists.intro; refine ⟨fun w1 hb1 => ?_, ?_⟩; (focus (((obtain ⟨-, kb, -⟩ := KB.out.to (T.out.trans hb1)); have hb1 := Lib.hid hb1; go_simp); (try (go_bits; try go_simp)); (try (rw [if_pos (by omega)]; try go_simp)); (first | done | (fail) | (with_reducible rfl) | exact rfl)))
                        simp only [Act.put, List.setIfInBounds_toArray, List.set_cons_zero, List.set_cons_succ]
                        refine WT_yes 1 rfl (by kernel_rfl) (fun _ _ _ _ _ h => h) (by rfl) ?_; apply Exists.intro; refine ⟨fun w1 hb1 => ?_, ?_⟩; (focus ((skip; have hb1 := Lib.hid hb1; go_simp); (try (go_bits; try go_simp)); (try (rw [if_pos (by omega)]; try go_simp)); (first | done | (fail) | (with_reducible rfl) | exact rfl)))
                        simp only [Act.put, List.setIfInBounds_toArray, List.set_cons_zero, List.set_cons_succ]
                        refine WT_yes 2 rfl (by kernel_rfl) (fun _ _ _ _ _ h => h) (by rfl) ?_; apply Exists.intro; refine ⟨fun w1 hb1 => ?_, ?_⟩; (focus (((obtain ⟨-, k3, -⟩ := K3k.out.to (T.out.trans hb1)); have hb1 := Lib.hid hb1; go_simp); (try (go_bits; try go_simp)); (try (rw [if_pos (by omega)]; try go_simp)); (first | done | (fail) | (with_reducible rfl) | exact rfl)))
                        simp only [Act.put, List.setIfInBounds_toArray, List.set_cons_zero, List.set_cons_succ]
                        refine WT_yes 3 rfl (by kernel_rfl) (fun _ _ _ _ _ h => h) (by rfl) ?_; apply Exists.intro; refine ⟨fun w1 hb1 => ?_, ?_⟩; (focus ((skip; have hb1 := Lib.hid hb1; go_simp); (try (go_bits; try go_simp)); (try (rw [if_pos (by omega)]; try go_simp)); (first | done | (fail) | (with_reducible rfl) | exact rfl)))
                        simp only [Act.put, List.setIfInBounds_toArray, List.set_cons_zero, List.set_cons_succ]
                        refine WT_yes 4 rfl (by kernel_rfl) (fun _ _ _ _ _ h => h) (by rfl) ?_; apply Exists.intro; refine ⟨fun w1 hb1 => ?_, ?_⟩; (focus ((skip; have hb1 := Lib.hid hb1; go_simp); (try (go_bits; try go_simp)); (try (rw [if_pos (by omega)]; try go_simp)); (first | done | (fail) | (with_reducible rfl) | exact rfl)))
                        simp only [Act.put, List.setIfInBounds_toArray, List.set_cons_zero, List.set_cons_succ]
                        refine WT_yes 5 rfl (by kernel_rfl) (fun _ _ _ _ _ h => h) (by rfl) ?_; apply Exists.intro; refine ⟨fun w1 hb1 => ?_, ?_⟩; (focus (((have kf := ((HBk.out.trans ((T.out.trans hb1).mono (show w.heap.size ≤ w5.heap.size by omega))).cell (p := ⟨b2', o2' + k, none⟩) hb2').trans KF2.out); have hb1 := Lib.hid hb1; go_simp); (try (go_bits; try go_simp)); (try (rw [if_pos (by omega)]; try go_simp)); (first | done | (fail) | (with_reducible rfl) | exact rfl)))
                        simp only [Act.put, List.setIfInBounds_toArray, List.set_cons_zero, List.set_cons_succ]
                        refine WT_yes 8 rfl (by kernel_rfl) (fun _ _ _ _ _ h => h) (by rfl) ?_; apply Exists.intro; refine ⟨fun w1 hb1 => ?_, ?_⟩; (focus (((obtain ⟨-, k3, -⟩ := K3k.out.to (T.out.trans hb1)); have hb1 := Lib.hid hb1; go_simp); (try (go_bits; try go_simp)); (try (rw [if_pos (by omega)]; try go_simp)); (first | done | (fail) | (with_reducible rfl) | exact rfl)))
                        simp only [Act.put, List.setIfInBounds_toArray, List.set_cons_zero, List.set_cons_succ]
                        refine WT_yes 9 rfl (by kernel_rfl) (fun _ _ _ _ _ h => h) (by rfl) ?_; apply Exists.intro; refine ⟨fun w1 hb1 => ?_, ?_⟩; (focus ((skip; have hb1 := Lib.hid hb1; go_simp); (try (go_bits; try go_simp)); (try (rw [if_pos (by omega)]; try go_simp)); (first | done | (fail) | (with_reducible rfl) | exact rfl)))
                        simp only [Act.put, List.setIfInBounds_toArray, List.set_cons_zero, List.set_cons_succ]
                        refine WT_yes 10 rfl (by kernel_rfl) (fun _ _ _ _ _ h => h) (by rfl) ?_; apply Exists.intro; refine ⟨fun w1 hb1 => ?_, ?_⟩; (focus ((skip; have hb1 := Lib.hid hb1; go_simp); (try (go_bits; try go_simp)); (try (rw [if_pos (by omega)]; try go_simp)); (first | done | (fail) | (with_reducible rfl) | exact rfl)))
                        simp only [Act.put, List.setIfInBounds_toArray, List.set_cons_zero, List.set_cons_succ]
                        refine WT_one 6 rfl (by kernel_rfl) ?_
                        unfold stepT
                        go_wp2_with fail
                        refine (HFI.out _).mono ?_
                        rintro e x1 ⟨aF, bF, vF, rfl, hvF, hb, -⟩
                        have HVF := Lib.hid hvF
                        have hbd := Lib.hid (hb.mono T.out.size)
                        replace T := Lib.hid (T.out.trans hbd.out)
                        clear hb hvF
                        go_wp2_with fail
                        refine ⟨hbd.out, ?_⟩
                        clear hbd
                        refine WT_one 7 rfl (by kernel_rfl) ?_
                        unfold stepT
                        go_wp2_with fail
                        refine (HAD.out _ _ _ _ HVF.out (HVA.out.to T.out)).mono ?_
                        rintro e x2 ⟨aS, bS, vS, rfl, hvS, hb, -⟩
                        have HVS := Lib.hid hvS
                        have hbd := Lib.hid (hb.mono T.out.size)
                        replace T := Lib.hid (T.out.trans hbd.out)
                        clear hb hvS
                        go_wp2_with fail
                        refine ⟨hbd.out, ?_⟩
                        clear hbd
                        refine WT_one 11 rfl (by kernel_rfl) ?_
                        unfold stepT
                        go_wp2_with fail
                        refine (HSPR.out _ k hlt (bThen hBk.out T.out)).mono ?_
                        rintro e x3 ⟨aP, bP, vP, rfl, hvP, hb, -⟩
                        have HVP := Lib.hid hvP
                        replace HVS := Lib.hid (HVS.out.to hb)
                        have hbd := Lib.hid (hb.mono T.out.size)
                        replace T := Lib.hid (T.out.trans hbd.out)
                        clear hb hvP
                        go_wp2_with fail
                        refine ⟨hbd.out, ?_⟩
                        clear hbd
                        refine WT_one 12 rfl (by kernel_rfl) ?_
                        unfold stepT
                        go_wp2_with fail
                        refine (HCM.out _ _ _ _ _ _ _ HVS.out HVP.out).mono ?_
                        rintro e x4 ⟨rfl, hb⟩
                        have hbd := Lib.hid (hb.mono T.out.size)
                        replace T := Lib.hid (T.out.trans hbd.out)
                        clear hb
                        go_wp2_with fail
                        refine ⟨hbd.out, ?_⟩
                        clear hbd
                        refine WT_one 13 rfl (by kernel_rfl) ?_
                        unfold stepT
                        go_wp2_with fail
                        refine ⟨Below.refl _ _, ?_⟩
                        refine WT_done (by kernel_rfl) ?_
                        have hBZ := Lib.hid (bThen hBk.out T.out)
                        clear T
                        go_wp2_with fail
                        go_roundw
                        case rel => exact ⟨k + 1, by omega, by go_num, Lib.hid (hE.out.trans (eachR_step hlt HNZ.out)), hBZ⟩
                        case measure => simp [intOf]; omega
                      · have hsb : (sg != 0) = true := by simpa using hs0
                        have HNZ := Lib.hid (HNB.out k (fun h => hs0 (HLQ.out.2 h)))
                        clear hs0
                        go_upto_region 21 with (fail)
                        refine wp_region_tree (by kernel_rfl) (fun wd hwd => ?_)
                        have T := Lib.hid hwd
                        clear hwd
                        refine WT_yes 0 rfl (by kernel_rfl) (fun _ _ _ _ _ h => h) (by rfl) ?_; apply Exists.intro; refine ⟨fun w1 hb1 => ?_, ?_⟩; (focus (((obtain ⟨-, kb, -⟩ := KB.out.to (T.out.trans hb1)); have hb1 := Lib.hid hb1; go_simp); (try (go_bits; try go_simp)); (try (rw [if_pos (by omega)]; try go_simp)); (first | done | (fail) | (with_reducible rfl) | exact rfl)))
                        simp only [Act.put, List.setIfInBounds_toArray, List.set_cons_zero, List.set_cons_succ]
                        refine WT_yes 1 rfl (by kernel_rfl) (fun _ _ _ _ _ h => h) (by rfl) ?_; apply Exists.intro; refine ⟨fun w1 hb1 => ?_, ?_⟩; (focus ((skip; have hb1 := Lib.hid hb1; go_simp); (try (go_bits; try go_simp)); (try (rw [if_pos (by omega)]; try go_simp)); (first | done | (fail) | (with_reducible rfl) | exact rfl)))
                        simp only [Act.put, List.setIfInBounds_toArray, List.set_cons_zero, List.set_cons_succ]
                        refine WT_yes 2 rfl (by kernel_rfl) (fun _ _ _ _ _ h => h) (by rfl) ?_; apply Exists.intro; refine ⟨fun w1 hb1 => ?_, ?_⟩; (focus (((obtain ⟨-, k3, -⟩ := K3k.out.to (T.out.trans hb1)); have hb1 := Lib.hid hb1; go_simp); (try (go_bits; try go_simp)); (try (rw [if_pos (by omega)]; try go_simp)); (first | done | (fail) | (with_reducible rfl) | exact rfl)))
                        simp only [Act.put, List.setIfInBounds_toArray, List.set_cons_zero, List.set_cons_succ]
                        refine WT_yes 3 rfl (by kernel_rfl) (fun _ _ _ _ _ h => h) (by rfl) ?_; apply Exists.intro; refine ⟨fun w1 hb1 => ?_, ?_⟩; (focus ((skip; have hb1 := Lib.hid hb1; go_simp); (try (go_bits; try go_simp)); (try (rw [if_pos (by omega)]; try go_simp)); (first | done | (fail) | (with_reducible rfl) | exact rfl)))
                        simp only [Act.put, List.setIfInBounds_toArray, List.set_cons_zero, List.set_cons_succ]
                        refine WT_yes 4 rfl (by kernel_rfl) (fun _ _ _ _ _ h => h) (by rfl) ?_; apply Exists.intro; refine ⟨fun w1 hb1 => ?_, ?_⟩; (focus ((skip; have hb1 := Lib.hid hb1; go_simp); (try (go_bits; try go_simp)); (try (rw [if_pos (by omega)]; try go_simp)); (first | done | (fail) | (with_reducible rfl) | exact rfl)))
                        simp only [Act.put, List.setIfInBounds_toArray, List.set_cons_zero, List.set_cons_succ]
                        refine WT_yes 5 rfl (by kernel_rfl) (fun _ _ _ _ _ h => h) (by rfl) ?_; apply Exists.intro; refine ⟨fun w1 hb1 => ?_, ?_⟩; (focus (((have kf := ((HBk.out.trans ((T.out.trans hb1).mono (show w.heap.size ≤ w5.heap.size by omega))).cell (p := ⟨b2', o2' + k, none⟩) hb2').trans KF2.out); have hb1 := Lib.hid hb1; go_simp); (try (go_bits; try go_simp)); (try (rw [if_pos (by omega)]; try go_simp)); (first | done | (fail) | (with_reducible rfl) | exact rfl)))
                        simp only [Act.put, List.setIfInBounds_toArray, List.set_cons_zero, List.set_cons_succ]
                        refine WT_yes 8 rfl (by kernel_rfl) (fun _ _ _ _ _ h => h) (by rfl) ?_; apply Exists.intro; refine ⟨fun w1 hb1 => ?_, ?_⟩; (focus (((obtain ⟨-, k3, -⟩ := K3k.out.to (T.out.trans hb1)); have hb1 := Lib.hid hb1; go_simp); (try (go_bits; try go_simp)); (try (rw [if_pos (by omega)]; try go_simp)); (first | done | (fail) | (with_reducible rfl) | exact rfl)))
                        simp only [Act.put, List.setIfInBounds_toArray, List.set_cons_zero, List.set_cons_succ]
                        refine WT_yes 9 rfl (by kernel_rfl) (fun _ _ _ _ _ h => h) (by rfl) ?_; apply Exists.intro; refine ⟨fun w1 hb1 => ?_, ?_⟩; (focus ((skip; have hb1 := Lib.hid hb1; go_simp); (try (go_bits; try go_simp)); (try (rw [if_pos (by omega)]; try go_simp)); (first | done | (fail) | (with_reducible rfl) | exact rfl)))
                        simp only [Act.put, List.setIfInBounds_toArray, List.set_cons_zero, List.set_cons_succ]
                        refine WT_yes 10 rfl (by kernel_rfl) (fun _ _ _ _ _ h => h) (by rfl) ?_; apply Exists.intro; refine ⟨fun w1 hb1 => ?_, ?_⟩; (focus ((skip; have hb1 := Lib.hid hb1; go_simp); (try (go_bits; try go_simp)); (try (rw [if_pos (by omega)]; try go_simp)); (first | done | (fail) | (with_reducible rfl) | exact rfl)))
                        simp only [Act.put, List.setIfInBounds_toArray, List.set_cons_zero, List.set_cons_succ]
                        refine WT_one 6 rfl (by kernel_rfl) ?_
                        unfold stepT
                        go_wp2_with fail
                        refine (HFI.out _).mono ?_
                        rintro e x1 ⟨aF, bF, vF, rfl, hvF, hb, -⟩
                        have HVF := Lib.hid hvF
                        have hbd := Lib.hid (hb.mono T.out.size)
                        replace T := Lib.hid (T.out.trans hbd.out)
                        clear hb hvF
                        go_wp2_with fail
                        refine ⟨hbd.out, ?_⟩
                        clear hbd
                        refine WT_one 7 rfl (by kernel_rfl) ?_
                        unfold stepT
                        go_wp2_with fail
                        refine (HAD.out _ _ _ _ HVF.out (HVA.out.to T.out)).mono ?_
                        rintro e x2 ⟨aS, bS, vS, rfl, hvS, hb, -⟩
                        have HVS := Lib.hid hvS
                        have hbd := Lib.hid (hb.mono T.out.size)
                        replace T := Lib.hid (T.out.trans hbd.out)
                        clear hb hvS
                        go_wp2_with fail
                        refine ⟨hbd.out, ?_⟩
                        clear hbd
                        refine WT_one 11 rfl (by kernel_rfl) ?_
                        unfold stepT
                        go_wp2_with fail
                        refine (HSPR.out _ k hlt (bThen hBk.out T.out)).mono ?_
                        rintro e x3 ⟨aP, bP, vP, rfl, hvP, hb, -⟩
                        have HVP := Lib.hid hvP
                        replace HVS := Lib.hid (HVS.out.to hb)
                        have hbd := Lib.hid (hb.mono T.out.size)
                        replace T := Lib.hid (T.out.trans hbd.out)
                        clear hb hvP
                        go_wp2_with fail
                        refine ⟨hbd.out, ?_⟩
                        clear hbd
                        refine WT_one 12 rfl (by kernel_rfl) ?_
                        unfold stepT
                        go_wp2_with fail
                        refine (HCM.out _ _ _ _ _ _ _ HVS.out HVP.out).mono ?_
                        rintro e x4 ⟨rfl, hb⟩
                        have hbd := Lib.hid (hb.mono T.out.size)
                        replace T := Lib.hid (T.out.trans hbd.out)
                        clear hb
                        go_wp2_with fail
                        refine ⟨hbd.out, ?_⟩
                        clear hbd
                        refine WT_one 13 rfl (by kernel_rfl) ?_
                        unfold stepT
                        go_wp2_with fail
                        refine ⟨Below.refl _ _, ?_⟩
                        refine WT_done (by kernel_rfl) ?_
                        have hBZ := Lib.hid (bThen hBk.out T.out)
                        clear T
                        go_wp2_with fail
                        go_ret2
                        have hrr : r = ((k : Int), 19) := by rw [← HQE.out, hE.out, eachR_stop hlt (by rw [HNZ.out]; decide), HNZ.out]
                        rw [hrr]
                        exact ⟨rfl, bThen HB.out hBZ.out⟩
                · have hltI : decide ((k : Int) < (ks.length : Int)) = false := decide_eq_false (by omega)
                  have hke : k = ks.length := by omega
                  have hrr : r = (0, 0) := by rw [← HQE.out, hE.out, hke, Nat.sub_self]; rfl
                  have HRR := Lib.hid hrr
                  clear hke hrr
                  go_wp2_with fail
                  go_ret2
                  rw [HRR.out]
                  exact ⟨rfl, bThen HB.out hBk.out⟩
            · have hF0 : (F != SV) = true := by simpa using hF
              have HQ2 := HQ.out
              rw [if_pos hF] at HQ2
              have HQE := Lib.hid HQ2
              clear hF HQ HQ2
              go_wp2_with fail
              go_ret2
              rw [← HQE.out]
              exact ⟨rfl, HB.out⟩
    · have HQ := Lib.hid (HBAD.out (fun h => hq2 h.2))
      have hq1' : ((ls.length : Int) != (nd : Int) + 1) = false := by rw [hq1]; simp
      have hq2' : ((us.length : Int) != (ks.length : Int) - nd - 1) = true := by simpa using hq2
      clear HGOOD HBAD hq1 hq2
      obtain ⟨-, k3, -⟩ := K3.out
      obtain ⟨-, k5, -⟩ := K5.out
      go_wp2_with fail
      go_ret2
      rw [HQ.out]
      exact ⟨rfl, HB.out⟩
  · have HQ := Lib.hid (HBAD.out (fun h => hq1 h.1))
    have hq1' : ((ls.length : Int) != (nd : Int) + 1) = true := by simpa using hq1
    clear HGOOD HBAD hq1
    obtain ⟨-, k3, -⟩ := K3.out
    obtain ⟨-, k5, -⟩ := K5.out
    go_wp2_with fail
    go_ret2
    rw [HQ.out]
    exact ⟨rfl, HB.out⟩

end Go.Proofs.Ytjieojkfpoiabaa

/-
  HybridChains: the walk through the statement.
-/
namespace Go.Proofs.Ytjieojkfpoiabaa
open Go.RowKit

theorem chkC_pos {ks fs : List Int} (h : (chkC ks fs).2 = 0) : 0 < ks.length := by
  unfold chkC at h
  by_cases h0 : chE0 ks fs = 0
  · have e := firstE_zero (show firstE [_, _] = 0 from h0)
    have e1 := unl_zero (by decide) (e _ (List.mem_cons_self ..))
    simp only [Bool.and_eq_true, decide_eq_true_eq] at e1
    omega
  · rw [if_neg h0] at h; exact absurd h h0

set_option maxHeartbeats 6400000 in
set_option maxRecDepth 100000 in
theorem HybridChains_main (ks fs : List Int) (ls us : Fl) (F node : Int) (a1 a2 b1 b2 : Option Addr) (c1 c2 d1 d2 : Nat) (w : World) (h1 : ks.length ≤ 8) (h2 : fs.length ≤ 8) (h3 : ls.length ≤ 8) (h4 : us.length ≤ 8)
    (hn0 : -9223372036854775808 ≤ node) (hn1 : node ≤ 9223372036854775807) (hi1 : ∀ k, k < ls.length → I64 (fg ls k)) (hi2 : ∀ k, k < us.length → I64 (fg us k))
    (hr1 : Reads w a1 ks.length (ints ks)) (hr2 : Reads w a2 fs.length (ints fs)) (hr3 : Reads w b1 (ls.length * 2) (fracs ls)) (hr4 : Reads w b2 (us.length * 2) (fracs us)) :
    Calls Try.prog 8 #[.agg (chV a1 ks.length c1 a2 fs.length c2), .int .i64 node, .agg (hvV b1 ls.length d1 b2 us.length d2 F)] w fun e w' => e = .returned (.bool true) ∧ Below w.heap.size w w' := by
  have q1 : decide (8 < (ks.length : Int)) = false := decide_eq_false (by omega)
  have q2 : decide (8 < (fs.length : Int)) = false := decide_eq_false (by omega)
  have q3 : decide (8 < (ls.length : Int)) = false := decide_eq_false (by omega)
  have q4 : decide (8 < (us.length : Int)) = false := decide_eq_false (by omega)
  have HR1 := Lib.hid hr1
  have HR2 := Lib.hid hr2
  have HR3 := Lib.hid hr3
  have HR4 := Lib.hid hr4
  have HI1 := Lib.hid hi1
  have HI2 := Lib.hid hi2
  have HCC := Lib.hid (fun W (hb : Below w.heap.size w W) => CopyChain_any ks fs a1 a2 c1 c2 W (by omega) (by omega) (hr1.to hb) (hr2.to hb))
  have HCH := Lib.hid (fun W (hb : Below w.heap.size w W) => CopyHalves_any ls us F b1 b2 d1 d2 W (by omega) (by omega) (hr3.to hb) (hr4.to hb))
  have HCK := Lib.hid (fun W x1 x2 e1 e2 (g1 : Reads W x1 ks.length (ints ks)) (g2 : Reads W x2 fs.length (ints fs)) => CheckChain_any ks fs x1 x2 e1 e2 W (by omega) g1 g2)
  have HRK := Lib.hid (fun W (hb : Below w.heap.size w W) => rCheckChain_any ks fs a1 a2 c1 c2 W (by omega) (hr1.to hb) (hr2.to hb))
  have HMO := Lib.hid (fun W x1 x2 e1 e2 (ge : fs.length ≤ e2) (g1 : Reads W x1 ks.length (ints ks)) (g2 : Reads W x2 fs.length (ints fs)) => MovedOf_u ks fs x1 x2 e1 e2 W (by omega) ge g1 g2)
  have HHO := Lib.hid (fun W x1 x2 e1 e2 (ge : fs.length ≤ e2) (g1 : Reads W x1 ks.length (ints ks)) (g2 : Reads W x2 fs.length (ints fs)) => HalvesOf_u ks fs node x1 x2 e1 e2 W (by omega) ge g1 g2)
  have HKH := Lib.hid (fun W x1 x2 y1 y2 e1 e2 f1 f2 (ge : fs.length ≤ e2) (g1 : Reads W x1 ks.length (ints ks)) (g2 : Reads W x2 fs.length (ints fs)) (g3 : Reads W y1 (ls.length * 2) (fracs ls)) (g4 : Reads W y2 (us.length * 2) (fracs us)) => CheckHalves_any ks fs ls us F node x1 x2 y1 y2 e1 e2 f1 f2 W (by omega) (by omega) (by omega) (by omega) ge hn0 hn1 hi1 hi2 g1 g2 g3 g4)
  have HSO := Lib.hid (fun W x1 x2 e1 e2 (g1 : Reads W x1 ks.length (ints ks)) (g2 : Reads W x2 fs.length (ints fs)) => StiffnessOf_u ks fs x1 x2 e1 e2 W (by omega) g1 g2)
  unfold CPost at HCC
  unfold HPost at HCH
  unfold MUPost at HMO
  unfold HUPost at HHO
  obtain ⟨ck, cd, hck⟩ : ∃ a b, chkC ks fs = (a, b) := ⟨_, _, rfl⟩
  obtain ⟨mL, me, hmv⟩ : ∃ a b, mvR ks fs = (a, b) := ⟨_, _, rfl⟩
  obtain ⟨hl, hu, hF, he, hhv⟩ : ∃ a b c d, hvR ks fs node = ((a, b, c), d) := ⟨_, _, _, _, rfl⟩
  obtain ⟨cj, ce, hch⟩ : ∃ a b, chH ks fs ls us F node = (a, b) := ⟨_, _, rfl⟩
  obtain ⟨sn, sd, se, hst⟩ : ∃ a b c, stR ks fs = ((a, b), c) := ⟨_, _, _, rfl⟩
  have EK := Lib.hid hck
  have EM := Lib.hid hmv
  have EH := Lib.hid hhv
  have EC := Lib.hid hch
  have ES := Lib.hid hst
  rw [hck] at HCK HRK
  rw [hmv] at HMO
  rw [hhv] at HHO
  rw [hch] at HKH
  rw [hst] at HSO
  dsimp only at HCK HRK HMO HHO HKH HSO
  clear hck hmv hhv hch hst hr1 hr2 hr3 hr4 hi1 hi2
  go_enter Try.func8, Try.ntmps8
  go_wp2_with fail
  obtain ⟨w3, hw3⟩ : ∃ w3, (w.alloc (.cells (chV a1 ks.length c1 a2 fs.length c2) 73)).alloc (.cells (hvV b1 ls.length d1 b2 us.length d2 F) 76) = w3 := ⟨_, rfl⟩
  rw [hw3]
  have K3 : Hid (Blk w3 w.heap.size (chV a1 ks.length c1 a2 fs.length c2)) := by subst hw3; exact Lib.hid ((Blk.new _ _ _).alloc _)
  have K5 : Hid (Blk w3 (w.heap.size + 1) (hvV b1 ls.length d1 b2 us.length d2 F)) := by subst hw3; exact Lib.hid (Blk.newAt _ _ _ (by simp))
  have HB : Hid (Below w.heap.size w w3) := by subst hw3; exact Lib.hid (bAlloc (bAlloc (bSelf w) _) _)
  clear hw3
  refine (awake_any _).mono ?_
  rintro e w4 ⟨rfl, hb⟩
  replace K3 := Lib.hid (K3.out.to hb)
  replace K5 := Lib.hid (K5.out.to hb)
  replace HB := Lib.hid (bThen HB.out hb)
  clear hb
  obtain ⟨-, k3, -⟩ := K3.out
  obtain ⟨-, k5, -⟩ := K5.out
  go_upto_region 5 with (fail)
  clear k5 q1 q2 q3 q4
  go_wp2_with fail
  refine (HCC.out _ HB.out).mono ?_
  rintro e x5 ⟨x1, e1, x2, e2, rfl, -, ge, g1, g2, hb, -, -⟩
  replace K3 := Lib.hid (K3.out.to hb)
  replace K5 := Lib.hid (K5.out.to hb)
  replace HB := Lib.hid (bThen HB.out hb)
  have G1 := Lib.hid g1
  have G2 := Lib.hid g2
  have GE := Lib.hid ge
  clear hb k3 g1 g2 ge
  go_wp2_with fail
  refine (HCK.out _ _ _ _ _ G1.out G2.out).mono ?_
  rintro e w6 ⟨rfl, hb⟩
  replace K3 := Lib.hid (K3.out.to hb)
  replace K5 := Lib.hid (K5.out.to hb)
  replace HB := Lib.hid (bThen HB.out hb)
  clear hb G1 G2 GE
  obtain ⟨-, k3, -⟩ := K3.out
  go_wp2_with fail
  refine (HCC.out _ HB.out).mono ?_
  rintro e x6 ⟨x1, e1, x2, e2, rfl, -, ge, g1, g2, hb, -, -⟩
  replace K3 := Lib.hid (K3.out.to hb)
  replace K5 := Lib.hid (K5.out.to hb)
  replace HB := Lib.hid (bThen HB.out hb)
  have G1 := Lib.hid g1
  have G2 := Lib.hid g2
  have GE := Lib.hid ge
  clear hb k3 g1 g2 ge
  go_wp2_with fail
  refine (HMO.out _ _ _ _ _ GE.out G1.out G2.out).mono ?_
  rintro e w7 ⟨am, cm, rfl, hrm, hb⟩
  replace K3 := Lib.hid (K3.out.to hb)
  replace K5 := Lib.hid (K5.out.to hb)
  replace HB := Lib.hid (bThen HB.out hb)
  have HRM := Lib.hid hrm
  clear hb G1 G2 GE hrm
  obtain ⟨-, k3, -⟩ := K3.out
  go_wp2_with fail
  refine (HCC.out _ HB.out).mono ?_
  rintro e x7 ⟨x1, e1, x2, e2, rfl, -, ge, g1, g2, hb, -, -⟩
  replace K3 := Lib.hid (K3.out.to hb)
  replace K5 := Lib.hid (K5.out.to hb)
  replace HRM := Lib.hid (HRM.out.to hb)
  replace HB := Lib.hid (bThen HB.out hb)
  have G1 := Lib.hid g1
  have G2 := Lib.hid g2
  have GE := Lib.hid ge
  clear hb k3 g1 g2 ge
  go_wp2_with fail
  refine (HHO.out _ _ _ _ _ GE.out G1.out G2.out).mono ?_
  rintro e w8 ⟨p1, f1, p2, f2, rfl, hrl, hru, hb⟩
  replace K3 := Lib.hid (K3.out.to hb)
  replace K5 := Lib.hid (K5.out.to hb)
  replace HRM := Lib.hid (HRM.out.to hb)
  replace HB := Lib.hid (bThen HB.out hb)
  have HRHL := Lib.hid hrl
  have HRHU := Lib.hid hru
  clear hb G1 G2 GE hrl hru
  go_upto_region 8 with (fail)
  obtain ⟨w9, hw⟩ : ∃ W, w8.alloc (.cells (hvV p1 hl.length f1 p2 hu.length f2 hF) 76) = W := ⟨_, rfl⟩
  rw [hw]
  have hb : Below w8.heap.size w8 w9 := by subst hw; exact bAlloc (bSelf _) _
  have K11 : Hid (Blk w9 w8.heap.size (hvV p1 hl.length f1 p2 hu.length f2 hF)) := by subst hw; exact Lib.hid (Blk.new _ _ _)
  replace K3 := Lib.hid (K3.out.to hb)
  replace K5 := Lib.hid (K5.out.to hb)
  replace HRM := Lib.hid (HRM.out.to hb)
  replace HRHL := Lib.hid (HRHL.out.to hb)
  replace HRHU := Lib.hid (HRHU.out.to hb)
  replace HB := Lib.hid (bThen HB.out hb)
  clear hb hw
  obtain ⟨BK11, hB⟩ : ∃ B, w8.heap.size = B := ⟨_, rfl⟩
  rw [hB] at K11 ⊢
  clear hB
  refine wp_region_tree (by kernel_rfl) (fun wd hwd => ?_)
  have T := Lib.hid hwd
  clear hwd
  refine WT_yes 0 rfl (by kernel_rfl) (fun _ _ _ _ _ h => h) (by rfl) ?_; apply Exists.intro; refine ⟨fun w1 hb1 => ?_, ?_⟩; (focus (((obtain ⟨-, k3, -⟩ := K3.out.to (T.out.trans hb1)); have hb1 := Lib.hid hb1; go_simp); (try (go_bits; try go_simp)); (try (rw [if_pos (by omega)]; try go_simp)); (first | done | (fail) | (with_reducible rfl) | exact rfl)))
  simp only [Act.put, List.setIfInBounds_toArray, List.set_cons_zero, List.set_cons_succ]
  refine WT_yes 2 rfl (by kernel_rfl) (fun _ _ _ _ _ h => h) (by rfl) ?_; apply Exists.intro; refine ⟨fun w1 hb1 => ?_, ?_⟩; (focus ((skip; have hb1 := Lib.hid hb1; go_simp); (try (go_bits; try go_simp)); (try (rw [if_pos (by omega)]; try go_simp)); (first | done | (fail) | (with_reducible rfl) | exact rfl)))
  simp only [Act.put, List.setIfInBounds_toArray, List.set_cons_zero, List.set_cons_succ]
  refine WT_yes 3 rfl (by kernel_rfl) (fun _ _ _ _ _ h => h) (by rfl) ?_; apply Exists.intro; refine ⟨fun w1 hb1 => ?_, ?_⟩; (focus (((obtain ⟨-, k5, -⟩ := K5.out.to (T.out.trans hb1)); have hb1 := Lib.hid hb1; go_simp); (try (go_bits; try go_simp)); (try (rw [if_pos (by omega)]; try go_simp)); (first | done | (fail) | (with_reducible rfl) | exact rfl)))
  simp only [Act.put, List.setIfInBounds_toArray, List.set_cons_zero, List.set_cons_succ]
  refine WT_one 1 rfl (by kernel_rfl) ?_
  unfold stepT
  go_wp2_with fail
  refine (HCC.out _ (bThen HB.out T.out)).mono ?_
  rintro e x8 ⟨x1, e1, x2, e2, rfl, -, ge, g1, g2, hb, -, -⟩
  have G1 := Lib.hid g1
  have G2 := Lib.hid g2
  have GE := Lib.hid ge
  have hbd := Lib.hid (hb.mono T.out.size)
  replace T := Lib.hid (T.out.trans hbd.out)
  clear hb g1 g2 ge
  go_wp2_with fail
  refine ⟨hbd.out, ?_⟩
  clear hbd
  refine WT_one 4 rfl (by kernel_rfl) ?_
  unfold stepT
  go_wp2_with fail
  refine (HCH.out _ (bThen HB.out T.out)).mono ?_
  rintro e y8 ⟨y1, g1', y2, g2', rfl, -, -, g3, g4, hb, -, -⟩
  have G3 := Lib.hid g3
  have G4 := Lib.hid g4
  replace G1 := Lib.hid (G1.out.to hb)
  replace G2 := Lib.hid (G2.out.to hb)
  have hbd := Lib.hid (hb.mono T.out.size)
  replace T := Lib.hid (T.out.trans hbd.out)
  clear hb g3 g4
  go_wp2_with fail
  refine ⟨hbd.out, ?_⟩
  clear hbd
  refine WT_one 5 rfl (by kernel_rfl) ?_
  unfold stepT
  go_wp2_with fail
  refine (HKH.out _ _ _ _ _ _ _ _ _ GE.out G1.out G2.out G3.out G4.out).mono ?_
  rintro e z8 ⟨rfl, hb⟩
  have hbd := Lib.hid (hb.mono T.out.size)
  replace T := Lib.hid (T.out.trans hbd.out)
  clear hb G1 G2 G3 G4 GE
  go_wp2_with fail
  refine ⟨hbd.out, ?_⟩
  clear hbd
  refine WT_yes 6 rfl (by kernel_rfl) (fun _ _ _ _ _ h => h) (by rfl) ?_; apply Exists.intro; refine ⟨fun w1 hb1 => ?_, ?_⟩; (focus ((skip; have hb1 := Lib.hid hb1; go_simp); (try (go_bits; try go_simp)); (try (rw [if_pos (by omega)]; try go_simp)); (first | done | (fail) | (with_reducible rfl) | exact rfl)))
  simp only [Act.put, List.setIfInBounds_toArray, List.set_cons_zero, List.set_cons_succ]
  refine WT_yes 7 rfl (by kernel_rfl) (fun _ _ _ _ _ h => h) (by rfl) ?_; apply Exists.intro; refine ⟨fun w1 hb1 => ?_, ?_⟩; (focus ((skip; have hb1 := Lib.hid hb1; go_simp); (try (go_bits; try go_simp)); (try (rw [if_pos (by omega)]; try go_simp)); (first | done | (fail) | (with_reducible rfl) | exact rfl)))
  simp only [Act.put, List.setIfInBounds_toArray, List.set_cons_zero, List.set_cons_succ]
  refine WT_yes 8 rfl (by kernel_rfl) (fun _ _ _ _ _ h => h) (by rfl) ?_; apply Exists.intro; refine ⟨fun w1 hb1 => ?_, ?_⟩; (focus ((skip; have hb1 := Lib.hid hb1; go_simp); (try (go_bits; try go_simp)); (try (rw [if_pos (by omega)]; try go_simp)); (first | done | (fail) | (with_reducible rfl) | exact rfl)))
  simp only [Act.put, List.setIfInBounds_toArray, List.set_cons_zero, List.set_cons_succ]
  refine WT_yes 9 rfl (by kernel_rfl) (fun _ _ _ _ _ h => h) (by rfl) ?_; apply Exists.intro; refine ⟨fun w1 hb1 => ?_, ?_⟩; (focus ((skip; have hb1 := Lib.hid hb1; go_simp); (try (go_bits; try go_simp)); (try (rw [if_pos (by omega)]; try go_simp)); (first | done | (fail) | (with_reducible rfl) | exact rfl)))
  simp only [Act.put, List.setIfInBounds_toArray, List.set_cons_zero, List.set_cons_succ]
  refine WT_yes 10 rfl (by kernel_rfl) (fun _ _ _ _ _ h => h) (by rfl) ?_; apply Exists.intro; refine ⟨fun w1 hb1 => ?_, ?_⟩; (focus ((skip; have hb1 := Lib.hid hb1; go_simp); (try (go_bits; try go_simp)); (try (rw [if_pos (by omega)]; try go_simp)); (first | done | (fail) | (with_reducible rfl) | exact rfl)))
  simp only [Act.put, List.setIfInBounds_toArray, List.set_cons_zero, List.set_cons_succ]
  refine WT_done (by kernel_rfl) ?_
  have hb := T.out
  replace K3 := Lib.hid (K3.out.to hb)
  replace K5 := Lib.hid (K5.out.to hb)
  replace HRM := Lib.hid (HRM.out.to hb)
  replace HRHL := Lib.hid (HRHL.out.to hb)
  replace HRHU := Lib.hid (HRHU.out.to hb)
  replace K11 := Lib.hid (K11.out.to hb)
  replace HB := Lib.hid (bThen HB.out hb)
  clear hb T
  obtain ⟨-, k3, -⟩ := K3.out
  go_wp2_with fail
  refine (HCC.out _ HB.out).mono ?_
  rintro e x9 ⟨x1, e1, x2, e2, rfl, -, ge, g1, g2, hb, -, -⟩
  replace K3 := Lib.hid (K3.out.to hb)
  replace K5 := Lib.hid (K5.out.to hb)
  replace HRM := Lib.hid (HRM.out.to hb)
  replace HRHL := Lib.hid (HRHL.out.to hb)
  replace HRHU := Lib.hid (HRHU.out.to hb)
  replace K11 := Lib.hid (K11.out.to hb)
  replace HB := Lib.hid (bThen HB.out hb)
  have G1 := Lib.hid g1
  have G2 := Lib.hid g2
  have GE := Lib.hid ge
  clear hb k3 g1 g2 ge
  go_wp2_with fail
  refine (HSO.out _ _ _ _ _ G1.out G2.out).mono ?_
  rintro e wA ⟨rfl, hb⟩
  replace K3 := Lib.hid (K3.out.to hb)
  replace K5 := Lib.hid (K5.out.to hb)
  replace HRM := Lib.hid (HRM.out.to hb)
  replace HRHL := Lib.hid (HRHL.out.to hb)
  replace HRHU := Lib.hid (HRHU.out.to hb)
  replace K11 := Lib.hid (K11.out.to hb)
  replace HB := Lib.hid (bThen HB.out hb)
  clear hb G1 G2 GE
  go_upto_region 10 with (fail)
  obtain ⟨wB, hw⟩ : ∃ W, wA.alloc (.cells #[.int .i64 sn, .int .i64 sd] 86) = W := ⟨_, rfl⟩
  rw [hw]
  have hb : Below wA.heap.size wA wB := by subst hw; exact bAlloc (bSelf _) _
  have K15 : Hid (Blk wB wA.heap.size #[.int .i64 sn, .int .i64 sd]) := by subst hw; exact Lib.hid (Blk.new _ _ _)
  replace K3 := Lib.hid (K3.out.to hb)
  replace K5 := Lib.hid (K5.out.to hb)
  replace HRM := Lib.hid (HRM.out.to hb)
  replace HRHL := Lib.hid (HRHL.out.to hb)
  replace HRHU := Lib.hid (HRHU.out.to hb)
  replace K11 := Lib.hid (K11.out.to hb)
  replace HB := Lib.hid (bThen HB.out hb)
  clear hb hw
  obtain ⟨BK15, hB⟩ : ∃ B, wA.heap.size = B := ⟨_, rfl⟩
  rw [hB] at K15 ⊢
  clear hB
  go_upto_region 11 with (fail)
  obtain ⟨wC, hw⟩ : ∃ W, wB.alloc (.cells (hvV none 0 0 none 0 0 0) 76) = W := ⟨_, rfl⟩
  rw [hw]
  have hb : Below wB.heap.size wB wC := by subst hw; exact bAlloc (bSelf _) _
  have K17 : Hid (Blk wC wB.heap.size (hvV none 0 0 none 0 0 0)) := by subst hw; exact Lib.hid (Blk.new _ _ _)
  replace K3 := Lib.hid (K3.out.to hb)
  replace K5 := Lib.hid (K5.out.to hb)
  replace HRM := Lib.hid (HRM.out.to hb)
  replace HRHL := Lib.hid (HRHL.out.to hb)
  replace HRHU := Lib.hid (HRHU.out.to hb)
  replace K11 := Lib.hid (K11.out.to hb)
  replace K15 := Lib.hid (K15.out.to hb)
  replace HB := Lib.hid (bThen HB.out hb)
  clear hb hw
  obtain ⟨BK17, hB⟩ : ∃ B, wB.heap.size = B := ⟨_, rfl⟩
  rw [hB] at K17 ⊢
  clear hB
  obtain ⟨-, k3, -⟩ := K3.out
  go_wp2_with fail
  refine (HRK.out _ HB.out).mono ?_
  rintro e wD ⟨rfl, hb⟩
  replace K3 := Lib.hid (K3.out.to hb)
  replace K5 := Lib.hid (K5.out.to hb)
  replace HRM := Lib.hid (HRM.out.to hb)
  replace HRHL := Lib.hid (HRHL.out.to hb)
  replace HRHU := Lib.hid (HRHU.out.to hb)
  replace K11 := Lib.hid (K11.out.to hb)
  replace K15 := Lib.hid (K15.out.to hb)
  replace K17 := Lib.hid (K17.out.to hb)
  replace HB := Lib.hid (bThen HB.out hb)
  clear hb k3
  go_upto_region 12 with (fail)
  clear HCC HCH HCK HMO HHO HKH HSO HRK
  by_cases hcd : cd = 0
  case neg =>
    obtain ⟨e1, e2, e3, e4⟩ := chain_bad (ks := ks) (fs := fs) node ls us F (by rw [EK.out]; exact hcd)
    rw [EK.out] at e1 e2 e3 e4
    have j1 := EM.out.symm.trans e1
    have j2 := EH.out.symm.trans e2
    have j3 := EC.out.symm.trans e3
    have j4 := ES.out.symm.trans e4
    simp only [Prod.mk.injEq] at j1 j2 j3 j4
    obtain ⟨j11, j12⟩ := j1
    obtain ⟨⟨j21, j22, j23⟩, j24⟩ := j2
    obtain ⟨j31, j32⟩ := j3
    obtain ⟨⟨j41, j42⟩, j43⟩ := j4
    subst j11 j12 j21 j22 j23 j24 j31 j32 j41 j42 j43
    have hcd' : (se != 0) = true := by simpa using hcd
    have HSA := Lib.hid (fun W (g1 : Reads W p1 (([] : Fl).length * 2) (fracs [])) (g2 : Reads W p2 (([] : Fl).length * 2) (fracs [])) => SameHalves_any [] [] [] [] 0 0 p1 p2 none none f1 f2 0 0 W (by simp) (by simp) g1 g2 (.inl rfl) (.inl rfl))
    clear e1 e2 e3 e4 hcd
    obtain ⟨-, k11, -⟩ := K11.out
    obtain ⟨-, k15, -⟩ := K15.out
    obtain ⟨-, k17, -⟩ := K17.out
    go_wp2_with fail
    refine (HSA.out _ HRHL.out HRHU.out).mono ?_
    rintro e wE ⟨rfl, hb⟩
    replace K15 := Lib.hid (K15.out.to hb)
    replace HB := Lib.hid (bThen HB.out hb)
    clear hb k15 k11 k17
    obtain ⟨-, k15, -⟩ := K15.out
    go_wp2_with fail
    go_ret
    exact ⟨rfl, HB.out⟩
  subst hcd
  have hchk : (chkC ks fs).2 = 0 := by rw [EK.out]
  have hok := chkC_zero hchk
  have hkp := chkC_pos hchk
  have HOK := Lib.hid hok
  have HSF := Lib.hid (fun W (hb : Below w.heap.size w W) => Stiffness_any ks fs a1 a2 c1 fs.length c2 W hok hkp (HR1.out.to hb))
  have HRM2 := Lib.hid (fun W (hb : Below w.heap.size w W) => rMoved_u ks fs a1 a2 c1 c2 W hok (HR1.out.to hb) (HR2.out.to hb))
  have est : stR ks fs = (((flexP ks ks.length).2, (flexP ks ks.length).1), 0) := by unfold stR; rw [hchk]; rfl
  have j4 := ES.out.symm.trans est
  simp only [Prod.mk.injEq] at j4
  obtain ⟨⟨e5, e6⟩, rfl⟩ := j4
  rw [← e5, ← e6] at HSF
  clear est e5 e6 ES
  obtain ⟨-, k15, -⟩ := K15.out
  obtain ⟨-, k3, -⟩ := K3.out
  go_upto_region 16 with (fail)
  clear k15 k3
  refine wp_region_tree (by kernel_rfl) (fun wd hwd => ?_)
  have T := Lib.hid hwd
  clear hwd
  refine WT_yes 0 rfl (by kernel_rfl) (fun _ _ _ _ _ h => h) (by rfl) ?_; apply Exists.intro; refine ⟨fun w1 hb1 => ?_, ?_⟩; (focus ((skip; have hb1 := Lib.hid hb1; go_simp); (try (go_bits; try go_simp)); (try (rw [if_pos (by omega)]; try go_simp)); (first | done | (fail) | (with_reducible rfl) | exact rfl)))
  simp only [Act.put, List.setIfInBounds_toArray, List.set_cons_zero, List.set_cons_succ]
  refine WT_yes 1 rfl (by kernel_rfl) (fun _ _ _ _ _ h => h) (by rfl) ?_; apply Exists.intro; refine ⟨fun w1 hb1 => ?_, ?_⟩; (focus ((skip; have hb1 := Lib.hid hb1; go_simp); (try (go_bits; try go_simp)); (try (rw [if_pos (by omega)]; try go_simp)); (first | done | (fail) | (with_reducible rfl) | exact rfl)))
  simp only [Act.put, List.setIfInBounds_toArray, List.set_cons_zero, List.set_cons_succ]
  refine WT_yes 2 rfl (by kernel_rfl) (fun _ _ _ _ _ h => h) (by rfl) ?_; apply Exists.intro; refine ⟨fun w1 hb1 => ?_, ?_⟩; (focus ((skip; have hb1 := Lib.hid hb1; go_simp); (try (go_bits; try go_simp)); (try (rw [if_pos (by omega)]; try go_simp)); (first | done | (fail) | (with_reducible rfl) | exact rfl)))
  simp only [Act.put, List.setIfInBounds_toArray, List.set_cons_zero, List.set_cons_succ]
  refine WT_yes 3 rfl (by kernel_rfl) (fun _ _ _ _ _ h => h) (by rfl) ?_; apply Exists.intro; refine ⟨fun w1 hb1 => ?_, ?_⟩; (focus (((obtain ⟨-, k15, -⟩ := K15.out.to (T.out.trans hb1)); have hb1 := Lib.hid hb1; go_simp); (try (go_bits; try go_simp)); (try (rw [if_pos (by omega)]; try go_simp)); (first | done | (fail) | (with_reducible rfl) | exact rfl)))
  simp only [Act.put, List.setIfInBounds_toArray, List.set_cons_zero, List.set_cons_succ]
  refine WT_yes 4 rfl (by kernel_rfl) (fun _ _ _ _ _ h => h) (by rfl) ?_; apply Exists.intro; refine ⟨fun w1 hb1 => ?_, ?_⟩; (focus (((obtain ⟨-, k3, -⟩ := K3.out.to (T.out.trans hb1)); have hb1 := Lib.hid hb1; go_simp); (try (go_bits; try go_simp)); (try (rw [if_pos (by omega)]; try go_simp)); (first | done | (fail) | (with_reducible rfl) | exact rfl)))
  simp only [Act.put, List.setIfInBounds_toArray, List.set_cons_zero, List.set_cons_succ]
  refine WT_one 5 rfl (by kernel_rfl) ?_
  unfold stepT
  go_wp2_with fail
  refine (HSF.out _ (bThen HB.out T.out)).mono ?_
  rintro e wE ⟨rfl, hb⟩
  have hbd := Lib.hid (hb.mono T.out.size)
  replace T := Lib.hid (T.out.trans hbd.out)
  clear hb
  go_wp2_with fail
  refine ⟨hbd.out, ?_⟩
  clear hbd
  refine WT_yes 6 rfl (by kernel_rfl) (fun _ _ _ _ _ h => h) (by rfl) ?_; apply Exists.intro; refine ⟨fun w1 hb1 => ?_, ?_⟩; (focus ((skip; have hb1 := Lib.hid hb1; go_simp); (try (go_bits; try go_simp)); (try (rw [if_pos (by omega)]; try go_simp)); (first | done | (fail) | (with_reducible rfl) | exact rfl)))
  simp only [Act.put, List.setIfInBounds_toArray, List.set_cons_zero, List.set_cons_succ]
  refine WT_yes 7 rfl (by kernel_rfl) (fun _ _ _ _ _ h => h) (by rfl) ?_; apply Exists.intro; refine ⟨fun w1 hb1 => ?_, ?_⟩; (focus ((skip; have hb1 := Lib.hid hb1; go_simp); (try (go_bits; try go_simp)); (try (rw [if_pos (by omega)]; try go_simp)); (first | done | (fail) | (with_reducible rfl) | exact rfl)))
  simp only [Act.put, List.setIfInBounds_toArray, List.set_cons_zero, List.set_cons_succ]
  refine WT_done (by kernel_rfl) ?_
  have hb := T.out
  replace K3 := Lib.hid (K3.out.to hb)
  replace K5 := Lib.hid (K5.out.to hb)
  replace HRM := Lib.hid (HRM.out.to hb)
  replace HRHL := Lib.hid (HRHL.out.to hb)
  replace HRHU := Lib.hid (HRHU.out.to hb)
  replace K11 := Lib.hid (K11.out.to hb)
  replace K15 := Lib.hid (K15.out.to hb)
  replace K17 := Lib.hid (K17.out.to hb)
  replace HB := Lib.hid (bThen HB.out hb)
  clear hb T HSF
  obtain ⟨-, k3, -⟩ := K3.out
  go_wp2_with fail
  refine (HRM2.out _ HB.out).mono ?_
  rintro e wF ⟨ar, cr, rfl, hrr, hb⟩
  replace K3 := Lib.hid (K3.out.to hb)
  replace K5 := Lib.hid (K5.out.to hb)
  replace HRM := Lib.hid (HRM.out.to hb)
  replace HRHL := Lib.hid (HRHL.out.to hb)
  replace HRHU := Lib.hid (HRHU.out.to hb)
  replace K11 := Lib.hid (K11.out.to hb)
  replace K15 := Lib.hid (K15.out.to hb)
  replace K17 := Lib.hid (K17.out.to hb)
  replace HB := Lib.hid (bThen HB.out hb)
  have HRR := Lib.hid hrr
  clear hb hrr HRM2 k3
  cases hmo : mvO ks fs with
  | none =>
    have HMO2 := Lib.hid hmo
    have e1 : mvR ks fs = ([], 8) := by unfold mvR; rw [hchk, hmo]; rfl
    have e7 : rmR ks fs = ([], false) := by unfold rmR; rw [hmo]
    have j1 := EM.out.symm.trans e1
    simp only [Prod.mk.injEq] at j1
    obtain ⟨rfl, rfl⟩ := j1
    rw [e7] at HRR ⊢
    dsimp only at HRR ⊢
    clear e1 e7
    clear hmo
    obtain ⟨-, k3, -⟩ := K3.out
    go_wp2_with fail
    refine (bWithin_any _ _ _ _).mono ?_
    rintro e w' ⟨rfl, rfl⟩
    cases hwn : (decide (0 ≤ node) && decide (node ≤ (ks.length : Int) - 1))
    · skip
      obtain ⟨e2, e3⟩ := node_bad (ks := ks) (fs := fs) ls us F hchk hwn
      have j2 := EH.out.symm.trans e2
      have j3 := EC.out.symm.trans e3
      simp only [Prod.mk.injEq] at j2 j3
      obtain ⟨⟨rfl, rfl, rfl⟩, rfl⟩ := j2
      obtain ⟨rfl, rfl⟩ := j3
      have HSA := Lib.hid (fun W (g1 : Reads W p1 (([] : Fl).length * 2) (fracs [])) (g2 : Reads W p2 (([] : Fl).length * 2) (fracs [])) => SameHalves_any [] [] [] [] 0 0 p1 p2 none none f1 f2 0 0 W (by simp) (by simp) g1 g2 (.inl rfl) (.inl rfl))
      clear e2 e3 hwn
      clear k3
      obtain ⟨-, k11, -⟩ := K11.out
      obtain ⟨-, k17, -⟩ := K17.out
      go_wp2_with fail
      refine (HSA.out _ HRHL.out HRHU.out).mono ?_
      rintro e wE ⟨rfl, hb⟩
      replace HB := Lib.hid (bThen HB.out hb)
      clear hb k11 k17
      go_wp2_with fail
      go_ret
      exact ⟨rfl, HB.out⟩
    · skip
      have hwn2 := hwn
      simp only [Bool.and_eq_true, decide_eq_true_eq] at hwn2
      obtain ⟨nd, rfl⟩ : ∃ nd : Nat, node = nd := ⟨node.toNat, by omega⟩
      have hnd0 := node_ok hchk hwn
      have hndn : nd < ks.length := by omega
      have HRH := Lib.hid (fun W (hb : Below w.heap.size w W) => rHalves_u ks fs nd a1 a2 c1 c2 W HOK.out hndn (HR1.out.to hb) (HR2.out.to hb))
      have HHE := Lib.hid (fun W (hb : Below w.heap.size w W) => HalvesErr_any ks fs ls us F nd a1 a2 b1 b2 c1 c2 d1 d2 W hnd0 (by omega) (by omega) HI1.out HI2.out (HR1.out.to hb) (HR2.out.to hb) (HR3.out.to hb) (HR4.out.to hb))
      rw [EC.out] at HHE
      dsimp only at HHE
      have e2 : hvR ks fs nd = (([], [], 0), 8) := by unfold hvR; rw [hnd0, HMO2.out]; rfl
      have e3 : rhR ks fs nd = (([], [], 0), false) := by unfold rhR; rw [HMO2.out]
      have j2 := EH.out.symm.trans e2
      simp only [Prod.mk.injEq] at j2
      obtain ⟨⟨rfl, rfl, rfl⟩, rfl⟩ := j2
      rw [e3] at HRH
      dsimp only at HRH
      clear e2 e3
      clear hwn hwn2 hnd0 hndn EC EH EM EK
      go_wp2_with fail
      refine (HRH.out _ HB.out).mono ?_
      rintro e wH ⟨o1, t1, o2, t2, rfl, hro, hrp, hb⟩
      replace K3 := Lib.hid (K3.out.to hb)
      replace K5 := Lib.hid (K5.out.to hb)
      replace HRM := Lib.hid (HRM.out.to hb)
      replace HRHL := Lib.hid (HRHL.out.to hb)
      replace HRHU := Lib.hid (HRHU.out.to hb)
      replace K11 := Lib.hid (K11.out.to hb)
      replace K15 := Lib.hid (K15.out.to hb)
      replace K17 := Lib.hid (K17.out.to hb)
      replace HRR := Lib.hid (HRR.out.to hb)
      replace HB := Lib.hid (bThen HB.out hb)
      have HRO := Lib.hid hro
      have HRP := Lib.hid hrp
      clear hb hro hrp HRH k3
      go_upto_region 24 with (fail)
      obtain ⟨wI, hw⟩ : ∃ W, wH.alloc (.cells (hvV o1 0 t1 o2 0 t2 0) 76) = W := ⟨_, rfl⟩
      rw [hw]
      have hb : Below wH.heap.size wH wI := by subst hw; exact bAlloc (bSelf _) _
      have K22 : Hid (Blk wI wH.heap.size (hvV o1 0 t1 o2 0 t2 0)) := by subst hw; exact Lib.hid (Blk.new _ _ _)
      replace K3 := Lib.hid (K3.out.to hb)
      replace K5 := Lib.hid (K5.out.to hb)
      replace HRM := Lib.hid (HRM.out.to hb)
      replace HRHL := Lib.hid (HRHL.out.to hb)
      replace HRHU := Lib.hid (HRHU.out.to hb)
      replace K11 := Lib.hid (K11.out.to hb)
      replace K15 := Lib.hid (K15.out.to hb)
      replace K17 := Lib.hid (K17.out.to hb)
      replace HRR := Lib.hid (HRR.out.to hb)
      replace HRO := Lib.hid (HRO.out.to hb)
      replace HRP := Lib.hid (HRP.out.to hb)
      replace HB := Lib.hid (bThen HB.out hb)
      clear hb hw
      obtain ⟨BK22, hB⟩ : ∃ B, wH.heap.size = B := ⟨_, rfl⟩
      rw [hB] at K22 ⊢
      clear hB
      obtain ⟨-, k11, -⟩ := K11.out
      obtain ⟨-, k17, -⟩ := K17.out
      have HSA := Lib.hid (fun W (g1 : Reads W p1 (([] : Fl).length * 2) (fracs [])) (g2 : Reads W p2 (([] : Fl).length * 2) (fracs [])) => SameHalves_any [] [] [] [] 0 0 p1 p2 none none f1 f2 0 0 W (by simp) (by simp) g1 g2 (.inl rfl) (.inl rfl))
      go_wp2_with fail
      refine (HSA.out _ HRHL.out HRHU.out).mono ?_
      rintro e wJ ⟨rfl, hb⟩
      replace K3 := Lib.hid (K3.out.to hb)
      replace K5 := Lib.hid (K5.out.to hb)
      replace HRM := Lib.hid (HRM.out.to hb)
      replace HRHL := Lib.hid (HRHL.out.to hb)
      replace HRHU := Lib.hid (HRHU.out.to hb)
      replace K11 := Lib.hid (K11.out.to hb)
      replace K15 := Lib.hid (K15.out.to hb)
      replace K17 := Lib.hid (K17.out.to hb)
      replace HRR := Lib.hid (HRR.out.to hb)
      replace HRO := Lib.hid (HRO.out.to hb)
      replace HRP := Lib.hid (HRP.out.to hb)
      replace K22 := Lib.hid (K22.out.to hb)
      replace HB := Lib.hid (bThen HB.out hb)
      clear hb k11 HSA k17
      obtain ⟨-, k3, -⟩ := K3.out
      obtain ⟨-, k5, -⟩ := K5.out
      go_wp2_with fail
      refine (HHE.out _ HB.out).mono ?_
      rintro e wK ⟨rfl, hb⟩
      replace HB := Lib.hid (bThen HB.out hb)
      clear hb k3 k5
      go_wp2_with fail
      go_ret
      exact ⟨rfl, HB.out⟩
  | some l =>
    have HMO2 := Lib.hid hmo
    have HLL := Lib.hid (show l.length = ks.length from movO_len hmo)
    have e1 : mvR ks fs = (l, 0) := by unfold mvR; rw [hchk, hmo]; rfl
    have e7 : rmR ks fs = (l, true) := by unfold rmR; rw [hmo]
    have j1 := EM.out.symm.trans e1
    simp only [Prod.mk.injEq] at j1
    obtain ⟨j11, rfl⟩ := j1
    have j12 := j11.symm
    clear j11
    subst j12
    rw [e7] at HRR ⊢
    dsimp only at HRR ⊢
    clear e1 e7
    clear hmo
    have HFR := Lib.hid (fun W (g1 : Reads W am (l.length * 2) (fracs l)) (g2 : Reads W ar (l.length * 2) (fracs l)) => Fracs_any l l am ar cm cr W (by have := HLL.out; unfold maxLen; omega) g1 g2)
    have hll' : decide (l = l) = true := by simp
    rw [hll'] at HFR
    clear hll'
    go_wp2_with fail
    refine (HFR.out _ HRM.out HRR.out).mono ?_
    rintro e wG ⟨rfl, hb⟩
    replace K3 := Lib.hid (K3.out.to hb)
    replace K5 := Lib.hid (K5.out.to hb)
    replace HRM := Lib.hid (HRM.out.to hb)
    replace HRHL := Lib.hid (HRHL.out.to hb)
    replace HRHU := Lib.hid (HRHU.out.to hb)
    replace K11 := Lib.hid (K11.out.to hb)
    replace K15 := Lib.hid (K15.out.to hb)
    replace K17 := Lib.hid (K17.out.to hb)
    replace HRR := Lib.hid (HRR.out.to hb)
    replace HB := Lib.hid (bThen HB.out hb)
    clear hb HFR
    obtain ⟨-, k3, -⟩ := K3.out
    go_wp2_with fail
    refine (bWithin_any _ _ _ _).mono ?_
    rintro e w' ⟨rfl, rfl⟩
    cases hwn : (decide (0 ≤ node) && decide (node ≤ (ks.length : Int) - 1))
    · skip
      obtain ⟨e2, e3⟩ := node_bad (ks := ks) (fs := fs) ls us F hchk hwn
      have j2 := EH.out.symm.trans e2
      have j3 := EC.out.symm.trans e3
      simp only [Prod.mk.injEq] at j2 j3
      obtain ⟨⟨rfl, rfl, rfl⟩, rfl⟩ := j2
      obtain ⟨rfl, rfl⟩ := j3
      have HSA := Lib.hid (fun W (g1 : Reads W p1 (([] : Fl).length * 2) (fracs [])) (g2 : Reads W p2 (([] : Fl).length * 2) (fracs [])) => SameHalves_any [] [] [] [] 0 0 p1 p2 none none f1 f2 0 0 W (by simp) (by simp) g1 g2 (.inl rfl) (.inl rfl))
      clear e2 e3 hwn
      clear k3
      obtain ⟨-, k11, -⟩ := K11.out
      obtain ⟨-, k17, -⟩ := K17.out
      go_wp2_with fail
      refine (HSA.out _ HRHL.out HRHU.out).mono ?_
      rintro e wE ⟨rfl, hb⟩
      replace HB := Lib.hid (bThen HB.out hb)
      clear hb k11 k17
      go_wp2_with fail
      go_ret
      exact ⟨rfl, HB.out⟩
    · skip
      have hwn2 := hwn
      simp only [Bool.and_eq_true, decide_eq_true_eq] at hwn2
      obtain ⟨nd, rfl⟩ : ∃ nd : Nat, node = nd := ⟨node.toNat, by omega⟩
      have hnd0 := node_ok hchk hwn
      have hndn : nd < ks.length := by omega
      have HRH := Lib.hid (fun W (hb : Below w.heap.size w W) => rHalves_u ks fs nd a1 a2 c1 c2 W HOK.out hndn (HR1.out.to hb) (HR2.out.to hb))
      have HHE := Lib.hid (fun W (hb : Below w.heap.size w W) => HalvesErr_any ks fs ls us F nd a1 a2 b1 b2 c1 c2 d1 d2 W hnd0 (by omega) (by omega) HI1.out HI2.out (HR1.out.to hb) (HR2.out.to hb) (HR3.out.to hb) (HR4.out.to hb))
      rw [EC.out] at HHE
      dsimp only at HHE
      have e2 : hvR ks fs nd = ((l.take (nd + 1), l.drop (nd + 1), (fs.drop (nd + 1)).sum), 0) := by unfold hvR; rw [hnd0, HMO2.out, if_neg (fun h : (0 : Int) ≠ 0 => h rfl), Int.toNat_natCast]
      have e3 : rhR ks fs nd = ((l.take (nd + 1), l.drop (nd + 1), (fs.drop (nd + 1)).sum), true) := by unfold rhR; rw [HMO2.out]
      have j2 := EH.out.symm.trans e2
      simp only [Prod.mk.injEq] at j2
      obtain ⟨⟨j21, j22, j23⟩, rfl⟩ := j2
      rw [← j21, ← j22, ← j23] at e3
      rw [e3] at HRH
      dsimp only at HRH
      have hlh : hl.length ≤ 8 := by rw [j21, List.length_take]; have := HLL.out; omega
      have huh : hu.length ≤ 8 := by rw [j22, List.length_drop]; have := HLL.out; omega
      clear j21 j22 j23 e2 e3
      clear hwn hwn2 hnd0 hndn EC EH EM EK
      go_wp2_with fail
      refine (HRH.out _ HB.out).mono ?_
      rintro e wH ⟨o1, t1, o2, t2, rfl, hro, hrp, hb⟩
      replace K3 := Lib.hid (K3.out.to hb)
      replace K5 := Lib.hid (K5.out.to hb)
      replace HRM := Lib.hid (HRM.out.to hb)
      replace HRHL := Lib.hid (HRHL.out.to hb)
      replace HRHU := Lib.hid (HRHU.out.to hb)
      replace K11 := Lib.hid (K11.out.to hb)
      replace K15 := Lib.hid (K15.out.to hb)
      replace K17 := Lib.hid (K17.out.to hb)
      replace HRR := Lib.hid (HRR.out.to hb)
      replace HB := Lib.hid (bThen HB.out hb)
      have HRO := Lib.hid hro
      have HRP := Lib.hid hrp
      clear hb hro hrp HRH k3
      go_upto_region 24 with (fail)
      obtain ⟨wI, hw⟩ : ∃ W, wH.alloc (.cells (hvV o1 hl.length t1 o2 hu.length t2 hF) 76) = W := ⟨_, rfl⟩
      rw [hw]
      have hb : Below wH.heap.size wH wI := by subst hw; exact bAlloc (bSelf _) _
      have K22 : Hid (Blk wI wH.heap.size (hvV o1 hl.length t1 o2 hu.length t2 hF)) := by subst hw; exact Lib.hid (Blk.new _ _ _)
      replace K3 := Lib.hid (K3.out.to hb)
      replace K5 := Lib.hid (K5.out.to hb)
      replace HRM := Lib.hid (HRM.out.to hb)
      replace HRHL := Lib.hid (HRHL.out.to hb)
      replace HRHU := Lib.hid (HRHU.out.to hb)
      replace K11 := Lib.hid (K11.out.to hb)
      replace K15 := Lib.hid (K15.out.to hb)
      replace K17 := Lib.hid (K17.out.to hb)
      replace HRR := Lib.hid (HRR.out.to hb)
      replace HRO := Lib.hid (HRO.out.to hb)
      replace HRP := Lib.hid (HRP.out.to hb)
      replace HB := Lib.hid (bThen HB.out hb)
      clear hb hw
      obtain ⟨BK22, hB⟩ : ∃ B, wH.heap.size = B := ⟨_, rfl⟩
      rw [hB] at K22 ⊢
      clear hB
      obtain ⟨-, k11, -⟩ := K11.out
      obtain ⟨-, k22, -⟩ := K22.out
      have HSA := Lib.hid (fun W (g1 : Reads W p1 (hl.length * 2) (fracs hl)) (g2 : Reads W p2 (hu.length * 2) (fracs hu)) (g3 : Reads W o1 (hl.length * 2) (fracs hl)) (g4 : Reads W o2 (hu.length * 2) (fracs hu)) => SameHalves_any hl hu hl hu hF hF p1 p2 o1 o2 f1 f2 t1 t2 W (by unfold maxLen; omega) (by unfold maxLen; omega) g1 g2 g3 g4)
      have hbb : ((decide (hl = hl) && decide (hu = hu)) && (hF == hF)) = true := by simp
      rw [hbb] at HSA
      clear hbb
      go_wp2_with fail
      refine (HSA.out _ HRHL.out HRHU.out HRO.out HRP.out).mono ?_
      rintro e wJ ⟨rfl, hb⟩
      replace K3 := Lib.hid (K3.out.to hb)
      replace K5 := Lib.hid (K5.out.to hb)
      replace HRM := Lib.hid (HRM.out.to hb)
      replace HRHL := Lib.hid (HRHL.out.to hb)
      replace HRHU := Lib.hid (HRHU.out.to hb)
      replace K11 := Lib.hid (K11.out.to hb)
      replace K15 := Lib.hid (K15.out.to hb)
      replace K17 := Lib.hid (K17.out.to hb)
      replace HRR := Lib.hid (HRR.out.to hb)
      replace HRO := Lib.hid (HRO.out.to hb)
      replace HRP := Lib.hid (HRP.out.to hb)
      replace K22 := Lib.hid (K22.out.to hb)
      replace HB := Lib.hid (bThen HB.out hb)
      clear hb k11 HSA k22
      obtain ⟨-, k3, -⟩ := K3.out
      obtain ⟨-, k5, -⟩ := K5.out
      go_wp2_with fail
      refine (HHE.out _ HB.out).mono ?_
      rintro e wK ⟨rfl, hb⟩
      replace HB := Lib.hid (bThen HB.out hb)
      clear hb k3 k5
      go_wp2_with fail
      go_ret
      exact ⟨rfl, HB.out⟩

end Go.Proofs.Ytjieojkfpoiabaa

/-
  HybridChains: the walk, for all inputs.
-/
namespace Go.Proofs.Ytjieojkfpoiabaa
open Go.RowKit

set_option maxHeartbeats 1600000 in
set_option maxRecDepth 100000 in
theorem HybridChains_any (ks fs : List Int) (ls us : Fl) (F node : Int) (a1 a2 b1 b2 : Option Addr) (c1 c2 d1 d2 : Nat) (w : World)
    (hn0 : -9223372036854775808 ≤ node) (hn1 : node ≤ 9223372036854775807) (hi1 : ∀ k, k < ls.length → I64 (fg ls k)) (hi2 : ∀ k, k < us.length → I64 (fg us k))
    (hr1 : Reads w a1 ks.length (ints ks)) (hr2 : Reads w a2 fs.length (ints fs)) (hr3 : Reads w b1 (ls.length * 2) (fracs ls)) (hr4 : Reads w b2 (us.length * 2) (fracs us)) :
    Calls Try.prog 8 #[.agg (chV a1 ks.length c1 a2 fs.length c2), .int .i64 node, .agg (hvV b1 ls.length d1 b2 us.length d2 F)] w fun e w' => e = .returned (.bool true) ∧ Below w.heap.size w w' := by
  by_cases k1 : ks.length ≤ 8
  · by_cases k2 : fs.length ≤ 8
    · by_cases k3 : List.length ls ≤ 8
      · by_cases k4 : List.length us ≤ 8
        · exact HybridChains_main ks fs ls us F node a1 a2 b1 b2 c1 c2 d1 d2 w k1 k2 k3 k4 hn0 hn1 hi1 hi2 hr1 hr2 hr3 hr4
        · skip
          have q0 : decide (8 < (ks.length : Int)) = false := decide_eq_false (by omega)
          have q1 : decide (8 < (fs.length : Int)) = false := decide_eq_false (by omega)
          have q2 : decide (8 < ((List.length ls) : Int)) = false := decide_eq_false (by omega)
          have q3 : decide (8 < ((List.length us) : Int)) = true := decide_eq_true (by omega)
          obtain ⟨n0, hn0'⟩ : ∃ n, ks.length = n := ⟨_, rfl⟩
          obtain ⟨n1, hn1'⟩ : ∃ n, fs.length = n := ⟨_, rfl⟩
          obtain ⟨n2, hn2'⟩ : ∃ n, List.length ls = n := ⟨_, rfl⟩
          obtain ⟨n3, hn3'⟩ : ∃ n, List.length us = n := ⟨_, rfl⟩
          rw [hn0'] at q0
          rw [hn1'] at q1
          rw [hn2'] at q2
          rw [hn3'] at q3
          rw [hn0', hn1', hn2', hn3']
          clear hr1 hr2 hr3 hr4 hi1 hi2 hn0 hn1 hn0' hn1' hn2' hn3' k1 k2 k3 k4
          go_enter Try.func8, Try.ntmps8
          go_wp2_with fail
          have K3 := Lib.hid ((Blk.new w (chV a1 n0 c1 a2 n1 c2) 73).alloc (.cells (hvV b1 n2 d1 b2 n3 d2 F) 76))
          have K5 := Lib.hid (Blk.newAt (B := w.heap.size + 1) (w.alloc (.cells (chV a1 n0 c1 a2 n1 c2) 73)) (hvV b1 n2 d1 b2 n3 d2 F) 76 (by simp))
          have HB := Lib.hid (bAlloc (bAlloc (bSelf w) (.cells (chV a1 n0 c1 a2 n1 c2) 73)) (.cells (hvV b1 n2 d1 b2 n3 d2 F) 76))
          refine (awake_any _).mono ?_
          rintro e w4 ⟨rfl, hb⟩
          replace K3 := Lib.hid (K3.out.to hb)
          replace K5 := Lib.hid (K5.out.to hb)
          replace HB := Lib.hid (bThen HB.out hb)
          clear hb
          obtain ⟨-, k3, -⟩ := K3.out
          obtain ⟨-, k5, -⟩ := K5.out
          go_wp2_with fail
          go_ret
          exact ⟨rfl, HB.out⟩
      · skip
        have q0 : decide (8 < (ks.length : Int)) = false := decide_eq_false (by omega)
        have q1 : decide (8 < (fs.length : Int)) = false := decide_eq_false (by omega)
        have q2 : decide (8 < ((List.length ls) : Int)) = true := decide_eq_true (by omega)
        obtain ⟨n0, hn0'⟩ : ∃ n, ks.length = n := ⟨_, rfl⟩
        obtain ⟨n1, hn1'⟩ : ∃ n, fs.length = n := ⟨_, rfl⟩
        obtain ⟨n2, hn2'⟩ : ∃ n, List.length ls = n := ⟨_, rfl⟩
        obtain ⟨n3, hn3'⟩ : ∃ n, List.length us = n := ⟨_, rfl⟩
        rw [hn0'] at q0
        rw [hn1'] at q1
        rw [hn2'] at q2
        rw [hn0', hn1', hn2', hn3']
        clear hr1 hr2 hr3 hr4 hi1 hi2 hn0 hn1 hn0' hn1' hn2' hn3' k1 k2 k3
        go_enter Try.func8, Try.ntmps8
        go_wp2_with fail
        have K3 := Lib.hid ((Blk.new w (chV a1 n0 c1 a2 n1 c2) 73).alloc (.cells (hvV b1 n2 d1 b2 n3 d2 F) 76))
        have K5 := Lib.hid (Blk.newAt (B := w.heap.size + 1) (w.alloc (.cells (chV a1 n0 c1 a2 n1 c2) 73)) (hvV b1 n2 d1 b2 n3 d2 F) 76 (by simp))
        have HB := Lib.hid (bAlloc (bAlloc (bSelf w) (.cells (chV a1 n0 c1 a2 n1 c2) 73)) (.cells (hvV b1 n2 d1 b2 n3 d2 F) 76))
        refine (awake_any _).mono ?_
        rintro e w4 ⟨rfl, hb⟩
        replace K3 := Lib.hid (K3.out.to hb)
        replace K5 := Lib.hid (K5.out.to hb)
        replace HB := Lib.hid (bThen HB.out hb)
        clear hb
        obtain ⟨-, k3, -⟩ := K3.out
        obtain ⟨-, k5, -⟩ := K5.out
        go_wp2_with fail
        go_ret
        exact ⟨rfl, HB.out⟩
    · skip
      have q0 : decide (8 < (ks.length : Int)) = false := decide_eq_false (by omega)
      have q1 : decide (8 < (fs.length : Int)) = true := decide_eq_true (by omega)
      obtain ⟨n0, hn0'⟩ : ∃ n, ks.length = n := ⟨_, rfl⟩
      obtain ⟨n1, hn1'⟩ : ∃ n, fs.length = n := ⟨_, rfl⟩
      obtain ⟨n2, hn2'⟩ : ∃ n, List.length ls = n := ⟨_, rfl⟩
      obtain ⟨n3, hn3'⟩ : ∃ n, List.length us = n := ⟨_, rfl⟩
      rw [hn0'] at q0
      rw [hn1'] at q1
      rw [hn0', hn1', hn2', hn3']
      clear hr1 hr2 hr3 hr4 hi1 hi2 hn0 hn1 hn0' hn1' hn2' hn3' k1 k2
      go_enter Try.func8, Try.ntmps8
      go_wp2_with fail
      have K3 := Lib.hid ((Blk.new w (chV a1 n0 c1 a2 n1 c2) 73).alloc (.cells (hvV b1 n2 d1 b2 n3 d2 F) 76))
      have K5 := Lib.hid (Blk.newAt (B := w.heap.size + 1) (w.alloc (.cells (chV a1 n0 c1 a2 n1 c2) 73)) (hvV b1 n2 d1 b2 n3 d2 F) 76 (by simp))
      have HB := Lib.hid (bAlloc (bAlloc (bSelf w) (.cells (chV a1 n0 c1 a2 n1 c2) 73)) (.cells (hvV b1 n2 d1 b2 n3 d2 F) 76))
      refine (awake_any _).mono ?_
      rintro e w4 ⟨rfl, hb⟩
      replace K3 := Lib.hid (K3.out.to hb)
      replace K5 := Lib.hid (K5.out.to hb)
      replace HB := Lib.hid (bThen HB.out hb)
      clear hb
      obtain ⟨-, k3, -⟩ := K3.out
      obtain ⟨-, k5, -⟩ := K5.out
      go_wp2_with fail
      go_ret
      exact ⟨rfl, HB.out⟩
  · skip
    have q0 : decide (8 < (ks.length : Int)) = true := decide_eq_true (by omega)
    obtain ⟨n0, hn0'⟩ : ∃ n, ks.length = n := ⟨_, rfl⟩
    obtain ⟨n1, hn1'⟩ : ∃ n, fs.length = n := ⟨_, rfl⟩
    obtain ⟨n2, hn2'⟩ : ∃ n, List.length ls = n := ⟨_, rfl⟩
    obtain ⟨n3, hn3'⟩ : ∃ n, List.length us = n := ⟨_, rfl⟩
    rw [hn0'] at q0
    rw [hn0', hn1', hn2', hn3']
    clear hr1 hr2 hr3 hr4 hi1 hi2 hn0 hn1 hn0' hn1' hn2' hn3' k1
    go_enter Try.func8, Try.ntmps8
    go_wp2_with fail
    have K3 := Lib.hid ((Blk.new w (chV a1 n0 c1 a2 n1 c2) 73).alloc (.cells (hvV b1 n2 d1 b2 n3 d2 F) 76))
    have K5 := Lib.hid (Blk.newAt (B := w.heap.size + 1) (w.alloc (.cells (chV a1 n0 c1 a2 n1 c2) 73)) (hvV b1 n2 d1 b2 n3 d2 F) 76 (by simp))
    have HB := Lib.hid (bAlloc (bAlloc (bSelf w) (.cells (chV a1 n0 c1 a2 n1 c2) 73)) (.cells (hvV b1 n2 d1 b2 n3 d2 F) 76))
    refine (awake_any _).mono ?_
    rintro e w4 ⟨rfl, hb⟩
    replace K3 := Lib.hid (K3.out.to hb)
    replace K5 := Lib.hid (K5.out.to hb)
    replace HB := Lib.hid (bThen HB.out hb)
    clear hb
    obtain ⟨-, k3, -⟩ := K3.out
    obtain ⟨-, k5, -⟩ := K5.out
    go_wp2_with fail
    go_ret
    exact ⟨rfl, HB.out⟩

end Go.Proofs.Ytjieojkfpoiabaa

