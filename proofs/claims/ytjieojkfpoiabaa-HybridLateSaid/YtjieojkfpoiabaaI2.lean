/-
  The statement HybridLate: the walk where all is valid.
-/
import Derived.Test.YtjieojkfpoiabaaI1
import Derived.Test.YtjieojkfpoiabaaLib10
import Derived.BigQuiet
namespace Go.Proofs.Ytjieojkfpoiabaa
open Go.RowKit

theorem below_dN (w : World) (n : Nat) : Below w.heap.size w (w.drewN n) := ⟨rfl, rfl, rfl, Nat.le_refl _, fun _ _ => rfl⟩

/-- What the loop over all steps wants of each. -/
structure LateK (ms : List Msg) (d u : Int) (n : Nat) (L : List Int) (k : Nat) : Prop where
  has : decide ((k : Int) ∈ L) = decide (d < endA ms u k - mA ms (2 * k))
  few : k < n → ¬ d < endA ms u k - mA ms (2 * k) ∧ 2 * k + 1 < ms.length

set_option maxHeartbeats 8000000 in
set_option maxRecDepth 100000 in
theorem HybridLate_good (ms : List Msg) (a : Option Addr) (cap : Nat) (d u more : Int) (w : World) (hok : MsOk ms d u) (hc : (chkM ms).2 = 0) (hck : clkE ms d u = 0) (hm1 : 0 ≤ more) (hm2 : more ≤ 1000) (hu9 : u ≤ 999999999000) (hd9 : d ≤ 99000) (hr : Reads w a (ms.length * 3) (msgs ms)) :
    Calls Try.prog 6 #[.slice a ms.length cap, .agg #[.int .i64 d, .int .i64 u], .int .i64 more] w fun e w' => e = .returned (.bool true) ∧ Below w.heap.size w w' := by
  have HR0 := Lib.hid hr
  clear hr
  have hfew := hok.len
  have hd1 := hok.d1
  have hu1 := hok.u1
  have hok2 := hok.longer (more := more) hm1 (by omega)
  have hok3 := hok.later (more := more) hm1 (by omega)
  have HTK := Lib.hid hok.tick
  have HCP := Lib.hid (fun (W : World) h => CopyMessages_any ms a cap W (by omega) h)
  have HME := Lib.hid (fun (W : World) h => MessagesErr_any ms a cap W (by unfold maxLen; omega) h)
  have HCK := Lib.hid (fun (W : World) h => ClockErr_any ms a cap d u W (by unfold maxLen; omega) h)
  rw [hc] at HME
  rw [hck] at HCK
  have HLT := Lib.hid (fun (a : Option Addr) (cap : Nat) (W : World) hc' h => LateIn_ok ms a cap d u W (by unfold maxLen; omega) hc' h (open_of_ok hc hok))
  have HHD := Lib.hid (fun (a : Option Addr) (cap : Nat) (W : World) hc' h => HeldAt_ok ms a cap d u W (by unfold maxLen; omega) hc' h (open_of_ok hc hok))
  have HCN := Lib.hid (fun (a : Option Addr) (cap : Nat) (W : World) hc' h => CountIn_ok ms a cap d u W (by unfold maxLen; omega) hc' h (open_of_ok hc hok))
  have HLT2 := Lib.hid (fun (a : Option Addr) (cap : Nat) (W : World) hc' h => LateIn_ok ms a cap (d + more) u W (by unfold maxLen; omega) hc' h (open_of_ok hc hok2))
  have HCN2 := Lib.hid (fun (a : Option Addr) (cap : Nat) (W : World) hc' h => CountIn_ok ms a cap (d + more) u W (by unfold maxLen; omega) hc' h (open_of_ok hc hok2))
  have HLT3 := Lib.hid (fun (a : Option Addr) (cap : Nat) (W : World) hc' h => LateIn_ok ms a cap d (u + more) W (by unfold maxLen; omega) hc' h (open_of_ok hc hok3))
  rw [lateL_eq hok] at HLT
  rw [lateL_eq hok2] at HLT2
  rw [lateL_eq hok3] at HLT3
  have hlen : ∀ d u, (lateN ms d u).length ≤ 100 := by
    intro d u
    unfold lateN lateJ
    rw [List.length_map]
    have := List.length_filter_le (isLate ms d u) (List.range ((ms.length + 1) / 2))
    simp only [List.length_range] at this
    omega
  have hl1 := hlen d u
  have hl2 := hlen (d + more) u
  have hl3 := hlen d (u + more)
  clear hlen
  obtain ⟨n, hn, hn2, hn3, -⟩ := count_spec hok
  have HK : Hid (∀ k, 2 * k < ms.length → LateK ms d u n (lateN ms d u) k) := Lib.hid (fun k hk => by
    refine ⟨?_, fun hkn => ?_⟩
    · have h1 := @mem_lateN ms d u k
      cases hb : isLate ms d u k with
      | true =>
        rw [decide_eq_true (h1.2 ⟨by omega, hb⟩)]
        exact hb.symm
      | false =>
        rw [decide_eq_false (fun h => by have := (h1.1 h).2; rw [hb] at this; cases this)]
        exact hb.symm
    · obtain ⟨h1, h2⟩ := hn3 k hkn
      exact ⟨of_decide_eq_false h1, h2⟩)
  have HFI := Lib.hid (late_first hok)
  have HMONO : Hid ((n : Int) ≤ countE ms (d + more) u) := Lib.hid (by rw [← hn]; exact count_longer hm1 hok hok2)
  have HS2 : Hid (∀ i, i < (lateN ms (d + more) u).length → gi (lateN ms (d + more) u) i ∈ lateN ms d u) := Lib.hid (fun i hi => by
    obtain ⟨k, hk, h1, h2⟩ := lateN_nat hi
    rw [hk]
    exact mem_lateN.2 ⟨h1, late_longer hm1 h2⟩)
  have HS3 : Hid (∀ i, i < (lateN ms d u).length → gi (lateN ms d u) i ∈ lateN ms d (u + more)) := Lib.hid (fun i hi => by
    obtain ⟨k, hk, h1, h2⟩ := lateN_nat hi
    rw [hk]
    exact mem_lateN.2 ⟨h1, late_later hm1 h2⟩)
  obtain ⟨L, hL⟩ : ∃ L, lateN ms d u = L := ⟨_, rfl⟩
  obtain ⟨L2, hL2⟩ : ∃ L, lateN ms (d + more) u = L := ⟨_, rfl⟩
  obtain ⟨L3, hL3⟩ : ∃ L, lateN ms d (u + more) = L := ⟨_, rfl⟩
  rw [hL] at HLT hl1 HK HFI HS2 HS3
  rw [hL2] at HLT2 hl2 HS2
  rw [hL3] at HLT3 hl3 HS3
  rw [hn] at HCN HFI
  obtain ⟨nb, hnb⟩ : ∃ p, countE ms (d + more) u = p := ⟨_, rfl⟩
  rw [hnb] at HCN2 HMONO
  have hnb2 := HMONO.out
  obtain ⟨⟨h1, h2⟩, hhE⟩ : ∃ p, heldE ms d u = p := ⟨_, rfl⟩
  rw [hhE] at HHD HFI
  dsimp only at HHD
  clear hL hL2 hL3 hn hn3 hnb hhE HMONO hc hck hok hok2 hok3
  have HMM : Hid (∀ k, mA ms k = mA ms k) := Lib.hid (fun _ => rfl)
  go_enter Try.func6, Try.ntmps6
  go_wp2_with fail
  refine (awake_any _).mono ?_
  rintro e w1 ⟨rfl, hb⟩
  have K0 := Lib.hid ((Blk.new w #[.int .i64 d, .int .i64 u] 45).to hb)
  have HB := Lib.hid (bThen (bAlloc (bSelf w) (.cells #[.int .i64 d, .int .i64 u] 45)) hb)
  have HR := Lib.hid ((HR0.out.alloc (.cells #[.int .i64 d, .int .i64 u] 45)).to hb)
  clear hb
  have hf1 : decide ((60 : Int) < (ms.length : Int)) = false := decide_eq_false (by omega)
  go_wp2_with fail
  refine (HME.out _ HR.out).mono ?_
  rintro e w2 ⟨rfl, hb⟩
  replace K0 := Lib.hid (K0.out.to hb)
  replace HR := Lib.hid (HR.out.to hb)
  replace HB := Lib.hid (bThen HB.out hb)
  clear hb
  obtain ⟨-, k0, -⟩ := K0.out
  go_wp2_with fail
  refine (HCK.out _ HR.out).mono ?_
  rintro e w3 ⟨rfl, hb⟩
  replace K0 := Lib.hid (K0.out.to hb)
  replace HR := Lib.hid (HR.out.to hb)
  replace HB := Lib.hid (bThen HB.out hb)
  clear hb k0
  obtain ⟨-, k0, -⟩ := K0.out
  go_wp2_with (go_at_call 33; refine (bWithin_any _ _ _ _).mono ?_; rintro e w' ⟨rfl, rfl⟩; rw [decide_eq_true hm1, decide_eq_true hm2])
  clear k0
  have hK0 := K0.out.1
  go_wp2_with fail
  refine wp_region_tree (by kernel_rfl) (fun w4d hwd => ?_)
  have T := Lib.hid hwd
  clear hwd
  refine WT_yes 0 rfl (by kernel_rfl) (fun _ _ _ _ _ h => h) (by rfl) ?_; apply Exists.intro; refine ⟨fun w1 hb1 => ?_, ?_⟩; (focus ((skip; have hb1 := Lib.hid hb1; go_simp); (try (go_bits; try go_simp)); (try (rw [if_pos (by omega)]; try go_simp)); (first | done | (fail) | (with_reducible rfl) | exact rfl)))
  simp only [Act.put, List.setIfInBounds_toArray, List.set_cons_zero, List.set_cons_succ]
  refine WT_yes 2 rfl (by kernel_rfl) (fun _ _ _ _ _ h => h) (by rfl) ?_; apply Exists.intro; refine ⟨fun w1 hb1 => ?_, ?_⟩; (focus (((obtain ⟨-, k0, -⟩ := (K0.out.to T.out).below hb1 hK0); have hb1 := Lib.hid hb1; go_simp); (try (go_bits; try go_simp)); (try (rw [if_pos (by omega)]; try go_simp)); (first | done | (fail) | (with_reducible rfl) | exact rfl)))
  simp only [Act.put, List.setIfInBounds_toArray, List.set_cons_zero, List.set_cons_succ]
  refine WT_one 1 rfl (by kernel_rfl) ?_
  unfold stepT
  go_wp2_with fail
  refine (HCP.out _ (HR.out.to T.out)).mono ?_
  rintro e w4c ⟨aC, cC, rfl, hcC, hrC, hb, -⟩
  have hbd := Lib.hid (hb.mono T.out.size)
  replace T := Lib.hid (bThen T.out hb)
  have HA := Lib.hid hrC
  clear hb hrC
  go_wp2_with fail
  refine ⟨hbd.out, ?_⟩
  clear hbd
  refine WT_one 3 rfl (by kernel_rfl) ?_
  unfold stepT
  go_wp2_with fail
  refine (HLT.out _ _ _ hcC HA.out).mono ?_
  rintro e w4f ⟨aL, cL, rfl, hrL, hb⟩
  have hbd := Lib.hid (hb.mono T.out.size)
  replace T := Lib.hid (bThen T.out hb)
  have HL := Lib.hid hrL
  clear hrL
  clear hb HA hcC
  go_wp2_with fail
  refine ⟨hbd.out, ?_⟩
  clear hbd
  refine WT_yes 4 rfl (by kernel_rfl) (fun _ _ _ _ _ h => h) (by rfl) ?_; apply Exists.intro; refine ⟨fun w1 hb1 => ?_, ?_⟩; (focus ((skip; have hb1 := Lib.hid hb1; go_simp); (try (go_bits; try go_simp)); (try (rw [if_pos (by omega)]; try go_simp)); (first | done | (fail) | (with_reducible rfl) | exact rfl)))
  simp only [Act.put, List.setIfInBounds_toArray, List.set_cons_zero, List.set_cons_succ]
  refine WT_yes 5 rfl (by kernel_rfl) (fun _ _ _ _ _ h => h) (by rfl) ?_; apply Exists.intro; refine ⟨fun w1 hb1 => ?_, ?_⟩; (focus ((skip; have hb1 := Lib.hid hb1; go_simp); (try (go_bits; try go_simp)); (try (rw [if_pos (by omega)]; try go_simp)); (first | done | (fail) | (with_reducible rfl) | exact rfl)))
  simp only [Act.put, List.setIfInBounds_toArray, List.set_cons_zero, List.set_cons_succ]
  refine WT_yes 6 rfl (by kernel_rfl) (fun _ _ _ _ _ h => h) (by rfl) ?_; apply Exists.intro; refine ⟨fun w1 hb1 => ?_, ?_⟩; (focus ((skip; have hb1 := Lib.hid hb1; go_simp); (try (go_bits; try go_simp)); (try (rw [if_pos (by omega)]; try go_simp)); (first | done | (fail) | (with_reducible rfl) | exact rfl)))
  simp only [Act.put, List.setIfInBounds_toArray, List.set_cons_zero, List.set_cons_succ]
  refine WT_yes 7 rfl (by kernel_rfl) (fun _ _ _ _ _ h => h) (by rfl) ?_; apply Exists.intro; refine ⟨fun w1 hb1 => ?_, ?_⟩; (focus ((skip; have hb1 := Lib.hid hb1; go_simp); (try (go_bits; try go_simp)); (try (rw [if_pos (by omega)]; try go_simp)); (first | done | (fail) | (with_reducible rfl) | exact rfl)))
  simp only [Act.put, List.setIfInBounds_toArray, List.set_cons_zero, List.set_cons_succ]
  refine WT_yes 8 rfl (by kernel_rfl) (fun _ _ _ _ _ h => h) (by rfl) ?_; apply Exists.intro; refine ⟨fun w1 hb1 => ?_, ?_⟩; (focus ((skip; have hb1 := Lib.hid hb1; go_simp); (try (go_bits; try go_simp)); (try (rw [if_pos (by omega)]; try go_simp)); (first | done | (fail) | (with_reducible rfl) | exact rfl)))
  simp only [Act.put, List.setIfInBounds_toArray, List.set_cons_zero, List.set_cons_succ]
  refine WT_done (by kernel_rfl) ?_
  replace K0 := Lib.hid (K0.out.to T.out)
  replace HR := Lib.hid (HR.out.to T.out)
  replace HB := Lib.hid (bThen HB.out T.out)
  clear T hK0
  have hK0 := K0.out.1
  go_wp2_with fail
  refine wp_region_tree (by kernel_rfl) (fun w5d hwd => ?_)
  have T := Lib.hid hwd
  clear hwd
  refine WT_yes 0 rfl (by kernel_rfl) (fun _ _ _ _ _ h => h) (by rfl) ?_; apply Exists.intro; refine ⟨fun w1 hb1 => ?_, ?_⟩; (focus ((skip; have hb1 := Lib.hid hb1; go_simp); (try (go_bits; try go_simp)); (try (rw [if_pos (by omega)]; try go_simp)); (first | done | (fail) | (with_reducible rfl) | exact rfl)))
  simp only [Act.put, List.setIfInBounds_toArray, List.set_cons_zero, List.set_cons_succ]
  refine WT_yes 2 rfl (by kernel_rfl) (fun _ _ _ _ _ h => h) (by rfl) ?_; apply Exists.intro; refine ⟨fun w1 hb1 => ?_, ?_⟩; (focus (((obtain ⟨-, k0, -⟩ := (K0.out.to T.out).below hb1 hK0); have hb1 := Lib.hid hb1; go_simp); (try (go_bits; try go_simp)); (try (rw [if_pos (by omega)]; try go_simp)); (first | done | (fail) | (with_reducible rfl) | exact rfl)))
  simp only [Act.put, List.setIfInBounds_toArray, List.set_cons_zero, List.set_cons_succ]
  refine WT_one 1 rfl (by kernel_rfl) ?_
  unfold stepT
  go_wp2_with fail
  refine (HCP.out _ (HR.out.to T.out)).mono ?_
  rintro e w5c ⟨aC, cC, rfl, hcC, hrC, hb, -⟩
  have hbd := Lib.hid (hb.mono T.out.size)
  replace T := Lib.hid (bThen T.out hb)
  have HA := Lib.hid hrC
  clear hb hrC
  go_wp2_with fail
  refine ⟨hbd.out, ?_⟩
  clear hbd
  refine WT_one 3 rfl (by kernel_rfl) ?_
  unfold stepT
  go_wp2_with fail
  refine (HHD.out _ _ _ hcC HA.out).mono ?_
  rintro e w5f ⟨rfl, hb⟩
  have hbd := Lib.hid (hb.mono T.out.size)
  replace T := Lib.hid (bThen T.out hb)
  clear hb HA hcC
  go_wp2_with fail
  refine ⟨hbd.out, ?_⟩
  clear hbd
  refine WT_yes 4 rfl (by kernel_rfl) (fun _ _ _ _ _ h => h) (by rfl) ?_; apply Exists.intro; refine ⟨fun w1 hb1 => ?_, ?_⟩; (focus ((skip; have hb1 := Lib.hid hb1; go_simp); (try (go_bits; try go_simp)); (try (rw [if_pos (by omega)]; try go_simp)); (first | done | (fail) | (with_reducible rfl) | exact rfl)))
  simp only [Act.put, List.setIfInBounds_toArray, List.set_cons_zero, List.set_cons_succ]
  refine WT_yes 5 rfl (by kernel_rfl) (fun _ _ _ _ _ h => h) (by rfl) ?_; apply Exists.intro; refine ⟨fun w1 hb1 => ?_, ?_⟩; (focus ((skip; have hb1 := Lib.hid hb1; go_simp); (try (go_bits; try go_simp)); (try (rw [if_pos (by omega)]; try go_simp)); (first | done | (fail) | (with_reducible rfl) | exact rfl)))
  simp only [Act.put, List.setIfInBounds_toArray, List.set_cons_zero, List.set_cons_succ]
  refine WT_yes 6 rfl (by kernel_rfl) (fun _ _ _ _ _ h => h) (by rfl) ?_; apply Exists.intro; refine ⟨fun w1 hb1 => ?_, ?_⟩; (focus ((skip; have hb1 := Lib.hid hb1; go_simp); (try (go_bits; try go_simp)); (try (rw [if_pos (by omega)]; try go_simp)); (first | done | (fail) | (with_reducible rfl) | exact rfl)))
  simp only [Act.put, List.setIfInBounds_toArray, List.set_cons_zero, List.set_cons_succ]
  refine WT_yes 7 rfl (by kernel_rfl) (fun _ _ _ _ _ h => h) (by rfl) ?_; apply Exists.intro; refine ⟨fun w1 hb1 => ?_, ?_⟩; (focus ((skip; have hb1 := Lib.hid hb1; go_simp); (try (go_bits; try go_simp)); (try (rw [if_pos (by omega)]; try go_simp)); (first | done | (fail) | (with_reducible rfl) | exact rfl)))
  simp only [Act.put, List.setIfInBounds_toArray, List.set_cons_zero, List.set_cons_succ]
  refine WT_yes 8 rfl (by kernel_rfl) (fun _ _ _ _ _ h => h) (by rfl) ?_; apply Exists.intro; refine ⟨fun w1 hb1 => ?_, ?_⟩; (focus ((skip; have hb1 := Lib.hid hb1; go_simp); (try (go_bits; try go_simp)); (try (rw [if_pos (by omega)]; try go_simp)); (first | done | (fail) | (with_reducible rfl) | exact rfl)))
  simp only [Act.put, List.setIfInBounds_toArray, List.set_cons_zero, List.set_cons_succ]
  refine WT_done (by kernel_rfl) ?_
  replace K0 := Lib.hid (K0.out.to T.out)
  replace HR := Lib.hid (HR.out.to T.out)
  replace HL := Lib.hid (HL.out.to T.out)
  replace HB := Lib.hid (bThen HB.out T.out)
  clear T hK0
  have hK0 := K0.out.1
  go_wp2_with fail
  refine wp_region_tree (by kernel_rfl) (fun w6d hwd => ?_)
  have T := Lib.hid hwd
  clear hwd
  refine WT_yes 0 rfl (by kernel_rfl) (fun _ _ _ _ _ h => h) (by rfl) ?_; apply Exists.intro; refine ⟨fun w1 hb1 => ?_, ?_⟩; (focus ((skip; have hb1 := Lib.hid hb1; go_simp); (try (go_bits; try go_simp)); (try (rw [if_pos (by omega)]; try go_simp)); (first | done | (fail) | (with_reducible rfl) | exact rfl)))
  simp only [Act.put, List.setIfInBounds_toArray, List.set_cons_zero, List.set_cons_succ]
  refine WT_yes 2 rfl (by kernel_rfl) (fun _ _ _ _ _ h => h) (by rfl) ?_; apply Exists.intro; refine ⟨fun w1 hb1 => ?_, ?_⟩; (focus (((obtain ⟨-, k0, -⟩ := (K0.out.to T.out).below hb1 hK0); have hb1 := Lib.hid hb1; go_simp); (try (go_bits; try go_simp)); (try (rw [if_pos (by omega)]; try go_simp)); (first | done | (fail) | (with_reducible rfl) | exact rfl)))
  simp only [Act.put, List.setIfInBounds_toArray, List.set_cons_zero, List.set_cons_succ]
  refine WT_one 1 rfl (by kernel_rfl) ?_
  unfold stepT
  go_wp2_with fail
  refine (HCP.out _ (HR.out.to T.out)).mono ?_
  rintro e w6c ⟨aC, cC, rfl, hcC, hrC, hb, -⟩
  have hbd := Lib.hid (hb.mono T.out.size)
  replace T := Lib.hid (bThen T.out hb)
  have HA := Lib.hid hrC
  clear hb hrC
  go_wp2_with fail
  refine ⟨hbd.out, ?_⟩
  clear hbd
  refine WT_one 3 rfl (by kernel_rfl) ?_
  unfold stepT
  go_wp2_with fail
  refine (HCN.out _ _ _ hcC HA.out).mono ?_
  rintro e w6f ⟨rfl, hb⟩
  have hbd := Lib.hid (hb.mono T.out.size)
  replace T := Lib.hid (bThen T.out hb)
  clear hb HA hcC
  go_wp2_with fail
  refine ⟨hbd.out, ?_⟩
  clear hbd
  refine WT_yes 4 rfl (by kernel_rfl) (fun _ _ _ _ _ h => h) (by rfl) ?_; apply Exists.intro; refine ⟨fun w1 hb1 => ?_, ?_⟩; (focus ((skip; have hb1 := Lib.hid hb1; go_simp); (try (go_bits; try go_simp)); (try (rw [if_pos (by omega)]; try go_simp)); (first | done | (fail) | (with_reducible rfl) | exact rfl)))
  simp only [Act.put, List.setIfInBounds_toArray, List.set_cons_zero, List.set_cons_succ]
  refine WT_yes 5 rfl (by kernel_rfl) (fun _ _ _ _ _ h => h) (by rfl) ?_; apply Exists.intro; refine ⟨fun w1 hb1 => ?_, ?_⟩; (focus ((skip; have hb1 := Lib.hid hb1; go_simp); (try (go_bits; try go_simp)); (try (rw [if_pos (by omega)]; try go_simp)); (first | done | (fail) | (with_reducible rfl) | exact rfl)))
  simp only [Act.put, List.setIfInBounds_toArray, List.set_cons_zero, List.set_cons_succ]
  refine WT_yes 6 rfl (by kernel_rfl) (fun _ _ _ _ _ h => h) (by rfl) ?_; apply Exists.intro; refine ⟨fun w1 hb1 => ?_, ?_⟩; (focus ((skip; have hb1 := Lib.hid hb1; go_simp); (try (go_bits; try go_simp)); (try (rw [if_pos (by omega)]; try go_simp)); (first | done | (fail) | (with_reducible rfl) | exact rfl)))
  simp only [Act.put, List.setIfInBounds_toArray, List.set_cons_zero, List.set_cons_succ]
  refine WT_yes 7 rfl (by kernel_rfl) (fun _ _ _ _ _ h => h) (by rfl) ?_; apply Exists.intro; refine ⟨fun w1 hb1 => ?_, ?_⟩; (focus ((skip; have hb1 := Lib.hid hb1; go_simp); (try (go_bits; try go_simp)); (try (rw [if_pos (by omega)]; try go_simp)); (first | done | (fail) | (with_reducible rfl) | exact rfl)))
  simp only [Act.put, List.setIfInBounds_toArray, List.set_cons_zero, List.set_cons_succ]
  refine WT_yes 8 rfl (by kernel_rfl) (fun _ _ _ _ _ h => h) (by rfl) ?_; apply Exists.intro; refine ⟨fun w1 hb1 => ?_, ?_⟩; (focus ((skip; have hb1 := Lib.hid hb1; go_simp); (try (go_bits; try go_simp)); (try (rw [if_pos (by omega)]; try go_simp)); (first | done | (fail) | (with_reducible rfl) | exact rfl)))
  simp only [Act.put, List.setIfInBounds_toArray, List.set_cons_zero, List.set_cons_succ]
  refine WT_done (by kernel_rfl) ?_
  replace K0 := Lib.hid (K0.out.to T.out)
  replace HR := Lib.hid (HR.out.to T.out)
  replace HL := Lib.hid (HL.out.to T.out)
  replace HB := Lib.hid (bThen HB.out T.out)
  clear T hK0
  go_upto_region 8 with (fail)
  go_cut [98] (fun s98 wc => s98 = .bool false ∧ w6f = wc)
  case first =>
    as_aux_lemma =>
      have hb8 : ((h2 == 0) = true ∧ 0 < L.length) ∨ ((h2 == 0) = false ∧ L.length = 0) := by
        rcases HFI.out with ⟨hL0, -, hh⟩ | ⟨j, l, hL0, -, -, hh⟩
        · cases hh; exact .inr ⟨rfl, by rw [hL0]; rfl⟩
        · cases hh; exact .inl ⟨rfl, by rw [hL0]; simp⟩
      rcases hb8 with ⟨hq1, hq2⟩ | ⟨hq1, hq0⟩
      · go_wp2_with (go_at_call 33; refine (bWithin_any _ _ _ _).mono ?_; rintro e w' ⟨rfl, rfl⟩; rw [decide_eq_true (by omega), decide_eq_true (by omega)])
        go_meet
        case rel => exact ⟨rfl, rfl⟩
      · have hq2 : decide (0 < L.length) = false := decide_eq_false (by omega)
        have hq3 : decide ((0 : Int) < (L.length : Int)) = false := decide_eq_false (by omega)
        have HQ := Lib.hid hq0
        clear hq0
        go_wp2_with (go_at_call 33; refine (bWithin_any _ _ _ _).mono ?_; rintro e w' ⟨rfl, rfl⟩; rw [decide_eq_true (by omega), decide_eq_true (by omega)])
        go_meet
        case rel => exact ⟨rfl, rfl⟩
  case rest =>
    obtain ⟨rfl, rfl⟩ := hcut
    go_wp2_with fail
    go_loopw [13] (fun v wr => ∃ k : Nat, 2 * k ≤ ms.length + 1 ∧ v = .int .i64 k ∧ Hid (Below w6f.heap.size w6f wr)) (fun v _ => ms.length + 1 - (intOf v).toNat)
    case atStart => exact ⟨0, by omega, rfl, Lib.hid (bSelf _)⟩
    case round =>
      obtain ⟨k, hk, rfl, hbel⟩ := hrel
      obtain ⟨i, hi⟩ : ∃ i, 2 * k = i := ⟨_, rfl⟩
      have hij : 2 * (k : Int) = (i : Int) := by omega
      replace K0 := Lib.hid (K0.out.to hbel.out)
      replace HL := Lib.hid (HL.out.to hbel.out)
      replace HR := Lib.hid (HR.out.to hbel.out)
      by_cases hlt : i < ms.length
      · obtain ⟨b, off, rfl, hb, hc⟩ := HR.out.at (k := i * 3) (by omega)
        obtain ⟨A0, hA0⟩ : ∃ A0, mA ms i = A0 := ⟨_, rfl⟩
        have t0 := HTK.out i hlt
        rw [hA0] at t0
        have c2 : Hid (wr.cell? ⟨b, off + i * 3 + 2, none⟩ = some (.int .i64 A0)) := Lib.hid (by rw [Nat.add_assoc, hc _ (by omega), msgs2, hA0])
        obtain ⟨e0, he0⟩ : ∃ e0, endA ms u k = e0 := ⟨_, rfl⟩
        have HKK := Lib.hid (HK.out k (by omega))
        have hhas := HKK.out.has
        have hkf := HKK.out.few
        rw [hi, hA0, he0] at hhas hkf
        have hcase : (i + 1 < ms.length ∧ Hid (wr.cell? ⟨b, off + (i + 1) * 3 + 2, none⟩ = some (.int .i64 e0)) ∧ 0 ≤ e0 ∧ e0 ≤ 1000000000000) ∨ (¬ i + 1 < ms.length ∧ e0 = u) := by
          by_cases h : i + 1 < ms.length
          · refine .inl ⟨h, Lib.hid ?_, ?_⟩
            · rw [Nat.add_assoc, hc _ (by omega), msgs2, ← he0]; unfold endA; rw [if_pos (by omega), hi]
            · rw [← he0]; unfold endA; rw [if_pos (by omega), hi]; exact HTK.out _ h
          · refine .inr ⟨h, ?_⟩
            rw [← he0]; unfold endA; rw [if_neg (by omega)]
        have hbr : b < wr.heap.size := hb
        have HI := Lib.hid hi
        clear hc hA0 he0 hi HKK
        obtain ⟨-, k1, -⟩ := K0.out
        go_upto_if 113 with (fail)
        go_cut [14] (fun s14 wc => s14 = .int .i64 e0 ∧ wr = wc)
        case first =>
          rcases hcase with ⟨hrp, c5, e1, e2⟩ | ⟨hrp, he⟩
          · have hrI : decide ((i : Int) + 1 < (ms.length : Int)) = true := decide_eq_true (by omega)
            have c5' := c5.out
            go_wp2_with fail
            go_meet
            case rel => exact ⟨rfl, rfl⟩
          · have hrI : decide ((i : Int) + 1 < (ms.length : Int)) = false := decide_eq_false (by omega)
            have HE := Lib.hid he
            clear he
            go_wp2_with fail
            go_meet
            case rel => exact ⟨by rw [HE.out], rfl⟩
        case rest =>
          obtain ⟨rfl, rfl⟩ := hcut
          have e12 : 0 ≤ e0 ∧ e0 ≤ 1000000000000 := by
            rcases hcase with ⟨-, -, e1, e2⟩ | ⟨-, rfl⟩
            · exact ⟨e1, e2⟩
            · exact ⟨hu1, by omega⟩
          clear k1 hcase
          by_cases hl : d < e0 - A0
          · skip
            as_aux_lemma =>
              have HH : Hid (decide ((k : Int) ∈ L) = true) := Lib.hid (hhas.trans (decide_eq_true hl))
              have hkn : decide (k < n) = false := decide_eq_false (fun h => by have := (hkf h).1; omega)
              clear hhas hkf
              go_wp2_with fail
              refine wp_region_quiet_all (fun w' => Below (World.heap wr).size (wr) w') (by kernel_rfl) (by kernel_rfl) (Below.refl _ _).drew ?_
              refine WQ.out ?_
              repeat (first | (refine WQ_no (by rfl) ?_; (simp only [Act.put, List.setIfInBounds_toArray, List.set_cons_zero, List.set_cons_succ])) | (refine WQ_yes (by rfl) ?_; apply Exists.intro; refine ⟨fun w1 hb1 => ?_, ?_⟩; (focus (((obtain ⟨-, k0, -⟩ := K0.out.to hb1; have k2 := (hb1.cell (p := ⟨b, off + i * 3 + 2, none⟩) hbr).trans c2.out); have hb1 := Lib.hid hb1; go_simp); (try (go_bits; try go_simp)); (try (rw [if_pos (by omega)]; try go_simp)); (first | done | ((go_at_call 34; refine (Has_any L _ _ _ _ (by omega) (HL.out.to hb1.out)).mono ?_; rintro e w' ⟨rfl, rfl⟩; exact ⟨by rw [HH.out], hb1.out⟩)) | (with_reducible rfl) | exact rfl))); (simp only [Act.put, List.setIfInBounds_toArray, List.set_cons_zero, List.set_cons_succ])))
              refine WQ_nil ?_
              intro w1 hb1
              have hbel2 := Lib.hid (hbel.out.trans (hb1.mono hbel.out.size))
              clear hb1
              go_wp2_with fail
              go_roundw
              case rel => exact ⟨k + 1, by have := HI.out; omega, by go_num, hbel2⟩
              case measure => simp [intOf]; have := HI.out; omega
          · by_cases hkn0 : k < n
            · skip
              as_aux_lemma =>
                have HH : Hid (decide ((k : Int) ∈ L) = false) := Lib.hid (hhas.trans (decide_eq_false (by omega)))
                have hld : decide (d < e0 - A0) = false := decide_eq_false (by omega)
                have hkn : decide (k < n) = true := decide_eq_true hkn0
                have hge : decide ((ms.length : Int) ≤ (i : Int) + 1) = false := decide_eq_false (by have := (hkf hkn0).2; have := HI.out; omega)
                clear hhas hkf
                go_wp2_with fail
                refine wp_region_quiet_all (fun w' => Below (World.heap wr).size (wr) w') (by kernel_rfl) (by kernel_rfl) (Below.refl _ _).drew ?_
                refine WQ.out ?_
                repeat (first | (refine WQ_no (by rfl) ?_; (simp only [Act.put, List.setIfInBounds_toArray, List.set_cons_zero, List.set_cons_succ])) | (refine WQ_yes (by rfl) ?_; apply Exists.intro; refine ⟨fun w1 hb1 => ?_, ?_⟩; (focus (((obtain ⟨-, k0, -⟩ := K0.out.to hb1; have k2 := (hb1.cell (p := ⟨b, off + i * 3 + 2, none⟩) hbr).trans c2.out); have hb1 := Lib.hid hb1; go_simp); (try (go_bits; try go_simp)); (try (rw [if_pos (by omega)]; try go_simp)); (first | done | ((go_at_call 34; refine (Has_any L _ _ _ _ (by omega) (HL.out.to hb1.out)).mono ?_; rintro e w' ⟨rfl, rfl⟩; exact ⟨by rw [HH.out], hb1.out⟩)) | (with_reducible rfl) | exact rfl))); (simp only [Act.put, List.setIfInBounds_toArray, List.set_cons_zero, List.set_cons_succ])))
                refine WQ_nil ?_
                intro w1 hb1
                have hbel2 := Lib.hid (hbel.out.trans (hb1.mono hbel.out.size))
                clear hb1
                go_wp2_with fail
                go_roundw
                case rel => exact ⟨k + 1, by have := HI.out; omega, by go_num, hbel2⟩
                case measure => simp [intOf]; have := HI.out; omega
            · skip
              as_aux_lemma =>
                have HH : Hid (decide ((k : Int) ∈ L) = false) := Lib.hid (hhas.trans (decide_eq_false (by omega)))
                have hld : decide (d < e0 - A0) = false := decide_eq_false (by omega)
                have hkn : decide (k < n) = false := decide_eq_false hkn0
                clear hhas hkf
                go_wp2_with fail
                refine wp_region_quiet_all (fun w' => Below (World.heap wr).size (wr) w') (by kernel_rfl) (by kernel_rfl) (Below.refl _ _).drew ?_
                refine WQ.out ?_
                repeat (first | (refine WQ_no (by rfl) ?_; (simp only [Act.put, List.setIfInBounds_toArray, List.set_cons_zero, List.set_cons_succ])) | (refine WQ_yes (by rfl) ?_; apply Exists.intro; refine ⟨fun w1 hb1 => ?_, ?_⟩; (focus (((obtain ⟨-, k0, -⟩ := K0.out.to hb1; have k2 := (hb1.cell (p := ⟨b, off + i * 3 + 2, none⟩) hbr).trans c2.out); have hb1 := Lib.hid hb1; go_simp); (try (go_bits; try go_simp)); (try (rw [if_pos (by omega)]; try go_simp)); (first | done | ((go_at_call 34; refine (Has_any L _ _ _ _ (by omega) (HL.out.to hb1.out)).mono ?_; rintro e w' ⟨rfl, rfl⟩; exact ⟨by rw [HH.out], hb1.out⟩)) | (with_reducible rfl) | exact rfl))); (simp only [Act.put, List.setIfInBounds_toArray, List.set_cons_zero, List.set_cons_succ])))
                refine WQ_nil ?_
                intro w1 hb1
                have hbel2 := Lib.hid (hbel.out.trans (hb1.mono hbel.out.size))
                clear hb1
                go_wp2_with fail
                go_roundw
                case rel => exact ⟨k + 1, by have := HI.out; omega, by go_num, hbel2⟩
                case measure => simp [intOf]; have := HI.out; omega
      · replace HB := Lib.hid (bThen HB.out hbel.out)
        have hib : i ≤ 62 := by omega
        clear hbel hi hk
        have hlt1 : decide ((i : Int) < (ms.length : Int)) = false := decide_eq_false (by omega)
        have hlt2 : decide (i < ms.length) = false := decide_eq_false hlt
        go_upto_if 156 with (fail)
        clear hij hlt hlt1 hlt2 hib
        go_cut [11] (fun s11 wc => s11 = .int .i64 n ∧ Hid (Below wr.heap.size wr wc))
        case first =>
          rcases HFI.out with ⟨hL0, hn0, -⟩ | ⟨j, l, hL0, hnj, hjm, hh⟩
          · have hq4 : ((n : Int) != (ms.length : Int) / 2) = false := by rw [hn0]; simp
            subst hL0
            clear hn0
            go_wp2_with fail
            go_meet
            case rel => exact ⟨rfl, Lib.hid (bSelf _)⟩
          · skip
            as_aux_lemma =>
              have hq2 : 0 < L.length := by rw [hL0]; simp
              have hjn : j = n := by omega
              subst hjn
              obtain ⟨i, hi⟩ : ∃ i, 2 * j = i := ⟨_, rfl⟩
              have hij : 2 * (j : Int) = (i : Int) := by omega
              have hil : i < ms.length := by omega
              obtain ⟨A, hA⟩ : ∃ A, mA ms i = A := ⟨_, rfl⟩
              have tA := HTK.out i hil
              obtain ⟨b, off, rfl, hb, hc⟩ := HR.out.at (k := i * 3) (by omega)
              obtain ⟨b1, o1, rfl, hb1', hc1⟩ := HL.out.at hq2
              have c2 : Hid (wr.cell? ⟨b, off + i * 3 + 2, none⟩ = some (.int .i64 A)) := Lib.hid (by rw [Nat.add_assoc, hc _ (by omega), msgs2, hA])
              have c1 : Hid (wr.cell? ⟨b1, o1, none⟩ = some (.int .i64 j)) := Lib.hid ((hc1 0 hq2).trans (by rw [hL0]; rfl))
              rw [hA] at tA
              have hh1 : h1 = A + d + 1 := by
                have := congrArg Prod.fst hh
                simp only at this
                rw [this, hi, hA]
              have hqh : (h1 != A + d + 1) = false := by rw [hh1]; simp
              have hqj : ((j : Int) != (j : Int)) = false := by simp
              have HJ : Hid (j ≤ (ms.length - 1) / 2) := Lib.hid (by omega)
              clear hc hc1 hA hh hh1 hL0 hnj hi
              go_wp2_with fail
              refine wp_region_quiet_all (fun w' => Below (World.heap wr).size (wr) w') (by kernel_rfl) (by kernel_rfl) (Below.refl _ _).drew ?_
              refine WQ.out ?_
              repeat (first | (refine WQ_no (by rfl) ?_; (simp only [Act.put, List.setIfInBounds_toArray, List.set_cons_zero, List.set_cons_succ])) | (refine WQ_yes (by rfl) ?_; apply Exists.intro; refine ⟨fun w1 hb1 => ?_, ?_⟩; (focus (((obtain ⟨-, k0, -⟩ := K0.out.to hb1; have k2 := (hb1.cell (p := ⟨b, off + i * 3 + 2, none⟩) hb).trans c2.out; have k3 := (hb1.cell (p := ⟨b1, o1, none⟩) hb1').trans c1.out); have hb1 := Lib.hid hb1; go_simp); (try (go_bits; try go_simp)); (try (rw [if_pos (by omega)]; try go_simp)); (first | done | ((go_at_call 33; refine (bWithin_any _ _ _ _).mono ?_; rintro e w' ⟨rfl, rfl⟩; exact ⟨by rw [decide_eq_true (by omega), decide_eq_true (by have := HJ.out; omega)], hb1.out⟩)) | (with_reducible rfl) | exact rfl))); (simp only [Act.put, List.setIfInBounds_toArray, List.set_cons_zero, List.set_cons_succ])))
              refine WQ_nil ?_
              intro w1 hb1
              have hb2 := Lib.hid hb1
              clear hb1
              go_wp2_with fail
              go_meet
              case rel => exact ⟨rfl, hb2⟩
        case rest =>
          obtain ⟨rfl, hb⟩ := hcut
          replace K0 := Lib.hid (K0.out.to hb.out)
          replace HL := Lib.hid (HL.out.to hb.out)
          replace HR := Lib.hid (HR.out.to hb.out)
          replace HB := Lib.hid (bThen HB.out hb.out)
          clear hb
          obtain ⟨wo, hwo⟩ : ∃ wo, wo = wc := ⟨_, rfl⟩
          subst hwo
          go_upto_region 23 with (fail)
          have hK0 := K0.out.1
          go_cut [15, 16] (fun s15 s16 wx => ∃ B1 B2, s15 = .pointer (some ⟨B1, 0, none⟩) ∧ s16 = .pointer (some ⟨B2, 0, none⟩) ∧ Hid (Blk wx B1 #[.int .i64 d, .int .i64 u]) ∧ Hid (Blk wx B2 #[.int .i64 d, .int .i64 u]) ∧ Hid (Below wo.heap.size wo wx) ∧ Hid (wo.heap.size ≤ B1 ∧ wo.heap.size ≤ B2 ∧ B1 ≠ B2))
          case first =>
            as_aux_lemma =>
              refine wp_region_tree (by kernel_rfl) (fun wd hwd => ?_)
              have T := Lib.hid hwd
              clear hwd
              refine WT_yes 0 rfl (by kernel_rfl) (fun _ _ _ _ _ h => h) (by rfl) ?_; apply Exists.intro; refine ⟨fun w1 hb1 => ?_, ?_⟩; (focus (((obtain ⟨-, k0, -⟩ := (K0.out.to T.out).below hb1 hK0); have hb1 := Lib.hid hb1; go_simp); (try (go_bits; try go_simp)); (try (rw [if_pos (by omega)]; try go_simp)); (first | done | (fail) | (with_reducible rfl) | exact rfl)))
              simp only [Act.put, List.setIfInBounds_toArray, List.set_cons_zero, List.set_cons_succ]
              refine WT_yes 1 rfl (by kernel_rfl) (fun _ _ _ _ _ h => h) (by rfl) ?_; apply Exists.intro; refine ⟨fun w1 hb1 => ?_, ?_⟩; (focus (((obtain ⟨-, k0, -⟩ := (K0.out.to T.out).below hb1 hK0); have hb1 := Lib.hid hb1; go_simp); (try (go_bits; try go_simp)); (try (rw [if_pos (by omega)]; try go_simp)); (first | done | (fail) | (with_reducible rfl) | exact rfl)))
              simp only [Act.put, List.setIfInBounds_toArray, List.set_cons_zero, List.set_cons_succ]
              refine WT_two 2 3 rfl rfl (by kernel_rfl) ?_ ?_
              · skip
                unfold stepT
                go_wp2_with fail
                obtain ⟨we, hwe⟩ : ∃ we, wd.alloc (.cells #[.int .i64 0, .int .i64 0] 45) = we := ⟨_, rfl⟩
                rw [hwe]
                have hb : Below wd.heap.size wd we := by subst hwe; exact bAlloc (bSelf _) _
                have KA : Hid (Blk we wd.heap.size #[.int .i64 0, .int .i64 0]) := by subst hwe; exact Lib.hid (Blk.new _ _ _)
                clear hwe
                have hN1 := Lib.hid T.out.size
                have hbd := Lib.hid (hb.mono T.out.size)
                replace T := Lib.hid (bThen T.out hb)
                refine ⟨hbd.out, ?_⟩
                clear hbd hb
                refine WT_one 3 rfl (by kernel_rfl) ?_
                unfold stepT
                go_wp2_with fail
                obtain ⟨wf, hwf⟩ : ∃ wf, we.alloc (.cells #[.int .i64 0, .int .i64 0] 45) = wf := ⟨_, rfl⟩
                rw [hwf]
                have hb : Below we.heap.size we wf := by subst hwf; exact bAlloc (bSelf _) _
                have KB : Hid (Blk wf we.heap.size #[.int .i64 0, .int .i64 0]) := by subst hwf; exact Lib.hid (Blk.new _ _ _)
                clear hwf
                have hN2 := Lib.hid T.out.size
                have hbd := Lib.hid (hb.mono T.out.size)
                replace T := Lib.hid (bThen T.out hb)
                have hAB : wd.heap.size < we.heap.size := KA.out.1
                replace KA := Lib.hid (KA.out.to hb)
                refine ⟨hbd.out, ?_⟩
                clear hbd hb
                refine WT_one 4 rfl (by kernel_rfl) ?_
                unfold stepT
                obtain ⟨hkx, kx, fx⟩ := KA.out
                obtain ⟨hky, ky, fy⟩ := KB.out
                go_wp2_with fail
                clear kx fx ky fy
                obtain ⟨wg, hwg⟩ : ∃ wg, (wf.setCell ⟨wd.heap.size, 0, none⟩ (.int .i64 d)).setCell ⟨wd.heap.size, 1, none⟩ (.int .i64 u) = wg := ⟨_, rfl⟩
                rw [hwg]
                have hbg : Below wo.heap.size wf wg := by subst hwg; exact ((Below.refl _ _).setCell (p := ⟨_, 0, none⟩) hN1.out _).setCell (p := ⟨_, 1, none⟩) hN1.out _
                have KX : Hid (Blk wg wd.heap.size #[.int .i64 d, .int .i64 u]) := by subst hwg; exact Lib.hid ((KA.out.set 0 _).set 1 _)
                have KY : Hid (Blk wg we.heap.size #[.int .i64 0, .int .i64 0]) := by subst hwg; exact Lib.hid ((KB.out.other (p := ⟨wd.heap.size, 0, none⟩) (by dsimp only; omega) _).other (p := ⟨wd.heap.size, 1, none⟩) (by dsimp only; omega) _)
                clear hwg
                refine ⟨hbg, ?_⟩
                replace T := Lib.hid (T.out.trans hbg)
                refine WT_one 5 rfl (by kernel_rfl) ?_
                unfold stepT
                obtain ⟨hky', ky, fy⟩ := KY.out
                go_wp2_with fail
                clear ky fy
                obtain ⟨wh, hwh⟩ : ∃ wh, (wg.setCell ⟨we.heap.size, 0, none⟩ (.int .i64 d)).setCell ⟨we.heap.size, 1, none⟩ (.int .i64 u) = wh := ⟨_, rfl⟩
                rw [hwh]
                have hbh : Below wo.heap.size wg wh := by subst hwh; exact ((Below.refl _ _).setCell (p := ⟨_, 0, none⟩) hN2.out _).setCell (p := ⟨_, 1, none⟩) hN2.out _
                have KY2 : Hid (Blk wh we.heap.size #[.int .i64 d, .int .i64 u]) := by subst hwh; exact Lib.hid ((KY.out.set 0 _).set 1 _)
                have KX2 : Hid (Blk wh wd.heap.size #[.int .i64 d, .int .i64 u]) := by subst hwh; exact Lib.hid ((KX.out.other (p := ⟨we.heap.size, 0, none⟩) (by dsimp only; omega) _).other (p := ⟨we.heap.size, 1, none⟩) (by dsimp only; omega) _)
                clear hwh
                refine ⟨hbh, ?_⟩
                replace T := Lib.hid (T.out.trans hbh)
                refine WT_done (by kernel_rfl) ?_
                go_wp2_with fail
                go_meet
                case rel => exact ⟨_, _, rfl, rfl, KX2, KY2, T, Lib.hid ⟨hN1.out, hN2.out, by omega⟩⟩
              · skip
                unfold stepT
                go_wp2_with fail
                obtain ⟨we, hwe⟩ : ∃ we, wd.alloc (.cells #[.int .i64 0, .int .i64 0] 45) = we := ⟨_, rfl⟩
                rw [hwe]
                have hb : Below wd.heap.size wd we := by subst hwe; exact bAlloc (bSelf _) _
                have KA : Hid (Blk we wd.heap.size #[.int .i64 0, .int .i64 0]) := by subst hwe; exact Lib.hid (Blk.new _ _ _)
                clear hwe
                have hN1 := Lib.hid T.out.size
                have hbd := Lib.hid (hb.mono T.out.size)
                replace T := Lib.hid (bThen T.out hb)
                refine ⟨hbd.out, ?_⟩
                clear hbd hb
                refine WT_one 2 rfl (by kernel_rfl) ?_
                unfold stepT
                go_wp2_with fail
                obtain ⟨wf, hwf⟩ : ∃ wf, we.alloc (.cells #[.int .i64 0, .int .i64 0] 45) = wf := ⟨_, rfl⟩
                rw [hwf]
                have hb : Below we.heap.size we wf := by subst hwf; exact bAlloc (bSelf _) _
                have KB : Hid (Blk wf we.heap.size #[.int .i64 0, .int .i64 0]) := by subst hwf; exact Lib.hid (Blk.new _ _ _)
                clear hwf
                have hN2 := Lib.hid T.out.size
                have hbd := Lib.hid (hb.mono T.out.size)
                replace T := Lib.hid (bThen T.out hb)
                have hAB : wd.heap.size < we.heap.size := KA.out.1
                replace KA := Lib.hid (KA.out.to hb)
                refine ⟨hbd.out, ?_⟩
                clear hbd hb
                refine WT_one 4 rfl (by kernel_rfl) ?_
                unfold stepT
                obtain ⟨hkx, kx, fx⟩ := KB.out
                obtain ⟨hky, ky, fy⟩ := KA.out
                go_wp2_with fail
                clear kx fx ky fy
                obtain ⟨wg, hwg⟩ : ∃ wg, (wf.setCell ⟨we.heap.size, 0, none⟩ (.int .i64 d)).setCell ⟨we.heap.size, 1, none⟩ (.int .i64 u) = wg := ⟨_, rfl⟩
                rw [hwg]
                have hbg : Below wo.heap.size wf wg := by subst hwg; exact ((Below.refl _ _).setCell (p := ⟨_, 0, none⟩) hN2.out _).setCell (p := ⟨_, 1, none⟩) hN2.out _
                have KX : Hid (Blk wg we.heap.size #[.int .i64 d, .int .i64 u]) := by subst hwg; exact Lib.hid ((KB.out.set 0 _).set 1 _)
                have KY : Hid (Blk wg wd.heap.size #[.int .i64 0, .int .i64 0]) := by subst hwg; exact Lib.hid ((KA.out.other (p := ⟨we.heap.size, 0, none⟩) (by dsimp only; omega) _).other (p := ⟨we.heap.size, 1, none⟩) (by dsimp only; omega) _)
                clear hwg
                refine ⟨hbg, ?_⟩
                replace T := Lib.hid (T.out.trans hbg)
                refine WT_one 5 rfl (by kernel_rfl) ?_
                unfold stepT
                obtain ⟨hky', ky, fy⟩ := KY.out
                go_wp2_with fail
                clear ky fy
                obtain ⟨wh, hwh⟩ : ∃ wh, (wg.setCell ⟨wd.heap.size, 0, none⟩ (.int .i64 d)).setCell ⟨wd.heap.size, 1, none⟩ (.int .i64 u) = wh := ⟨_, rfl⟩
                rw [hwh]
                have hbh : Below wo.heap.size wg wh := by subst hwh; exact ((Below.refl _ _).setCell (p := ⟨_, 0, none⟩) hN1.out _).setCell (p := ⟨_, 1, none⟩) hN1.out _
                have KY2 : Hid (Blk wh wd.heap.size #[.int .i64 d, .int .i64 u]) := by subst hwh; exact Lib.hid ((KY.out.set 0 _).set 1 _)
                have KX2 : Hid (Blk wh we.heap.size #[.int .i64 d, .int .i64 u]) := by subst hwh; exact Lib.hid ((KX.out.other (p := ⟨wd.heap.size, 0, none⟩) (by dsimp only; omega) _).other (p := ⟨wd.heap.size, 1, none⟩) (by dsimp only; omega) _)
                clear hwh
                refine ⟨hbh, ?_⟩
                replace T := Lib.hid (T.out.trans hbh)
                refine WT_done (by kernel_rfl) ?_
                go_wp2_with fail
                go_meet
                case rel => exact ⟨_, _, rfl, rfl, KX2, KY2, T, Lib.hid ⟨hN2.out, hN1.out, by omega⟩⟩
          case rest =>
            obtain ⟨B1, B2, rfl, rfl, KA, KB, T, hBN⟩ := hcut
            obtain ⟨hB1, hB2, hB12⟩ := hBN.out
            have HLc := HL
            have HRc := HR
            have HBc := HB
            have HWB := T
            have HWX := Lib.hid T.out.size
            have hK0w := hK0
            replace K0 := Lib.hid (K0.out.to T.out)
            clear T hBN hK0
            as_aux_lemma =>
              have hK0 := K0.out.1
              go_wp2_with fail
              refine wp_region_treeN wo.heap.size (by kernel_rfl) (fun wi hwi => ?_)
              replace KA := Lib.hid (KA.out.to hwi)
              replace KB := Lib.hid (KB.out.to hwi)
              have T := Lib.hid hwi
              have hTN := Lib.hid (T.out.mono (show wo.heap.size ≤ wc.heap.size from HWX.out))
              clear hwi
              refine WT_yes 0 rfl (by kernel_rfl) (fun _ _ _ _ _ h => h) (by rfl) ?_; apply Exists.intro; refine ⟨fun w1 hb1 => ?_, ?_⟩; (focus ((skip; have hb1 := Lib.hid hb1; go_simp); (try (go_bits; try go_simp)); (try (rw [if_pos (by omega)]; try go_simp)); (first | done | (fail) | (with_reducible rfl) | exact rfl)))
              simp only [Act.put, List.setIfInBounds_toArray, List.set_cons_zero, List.set_cons_succ]
              refine WT_yes 1 rfl (by kernel_rfl) (fun _ _ _ _ _ h => h) (by rfl) ?_; apply Exists.intro; refine ⟨fun w1 hb1 => ?_, ?_⟩; (focus (((obtain ⟨-, k0, -⟩ := (K0.out.to T.out).below hb1 hK0w); have hb1 := Lib.hid hb1; go_simp); (try (go_bits; try go_simp)); (try (rw [if_pos (by omega)]; try go_simp)); (first | done | (fail) | (with_reducible rfl) | exact rfl)))
              simp only [Act.put, List.setIfInBounds_toArray, List.set_cons_zero, List.set_cons_succ]
              refine WT_yes 2 rfl (by kernel_rfl) (fun _ _ _ _ _ h => h) (by rfl) ?_; apply Exists.intro; refine ⟨fun w1 hb1 => ?_, ?_⟩; (focus ((skip; have hb1 := Lib.hid hb1; go_simp); (try (go_bits; try go_simp)); (try (rw [if_pos (by omega)]; try go_simp)); (first | done | (fail) | (with_reducible rfl) | exact rfl)))
              simp only [Act.put, List.setIfInBounds_toArray, List.set_cons_zero, List.set_cons_succ]
              refine WT_yes 3 rfl (by kernel_rfl) (fun _ _ _ _ _ h => h) (by rfl) ?_; apply Exists.intro; refine ⟨fun w1 hb1 => ?_, ?_⟩; (focus ((skip; have hb1 := Lib.hid hb1; go_simp); (try (go_bits; try go_simp)); (try (rw [if_pos (by omega)]; try go_simp)); (first | done | (fail) | (with_reducible rfl) | exact rfl)))
              simp only [Act.put, List.setIfInBounds_toArray, List.set_cons_zero, List.set_cons_succ]
              refine WT_yes 4 rfl (by kernel_rfl) (fun _ _ _ _ _ h => h) (by rfl) ?_; apply Exists.intro; refine ⟨fun w1 hb1 => ?_, ?_⟩; (focus ((skip; have hb1 := Lib.hid hb1; go_simp); (try (go_bits; try go_simp)); (try (rw [if_pos (by omega)]; try go_simp)); (first | done | (fail) | (with_reducible rfl) | exact rfl)))
              simp only [Act.put, List.setIfInBounds_toArray, List.set_cons_zero, List.set_cons_succ]
              refine WT_yes 5 rfl (by kernel_rfl) (fun _ _ _ _ _ h => h) (by rfl) ?_; apply Exists.intro; refine ⟨fun w1 hb1 => ?_, ?_⟩; (focus (((obtain ⟨-, k0, -⟩ := (K0.out.to T.out).below hb1 hK0w); have hb1 := Lib.hid hb1; go_simp); (try (go_bits; try go_simp)); (try (rw [if_pos (by omega)]; try go_simp)); (first | done | (fail) | (with_reducible rfl) | exact rfl)))
              simp only [Act.put, List.setIfInBounds_toArray, List.set_cons_zero, List.set_cons_succ]
              refine WT_yes 6 rfl (by kernel_rfl) (fun _ _ _ _ _ h => h) (by rfl) ?_; apply Exists.intro; refine ⟨fun w1 hb1 => ?_, ?_⟩; (focus ((skip; have hb1 := Lib.hid hb1; go_simp); (try (go_bits; try go_simp)); (try (rw [if_pos (by omega)]; try go_simp)); (first | done | (fail) | (with_reducible rfl) | exact rfl)))
              simp only [Act.put, List.setIfInBounds_toArray, List.set_cons_zero, List.set_cons_succ]
              refine WT_yes 7 rfl (by kernel_rfl) (fun _ _ _ _ _ h => h) (by rfl) ?_; apply Exists.intro; refine ⟨fun w1 hb1 => ?_, ?_⟩; (focus ((skip; have hb1 := Lib.hid hb1; go_simp); (try (go_bits; try go_simp)); (try (rw [if_pos (by omega)]; try go_simp)); (first | done | (fail) | (with_reducible rfl) | exact rfl)))
              simp only [Act.put, List.setIfInBounds_toArray, List.set_cons_zero, List.set_cons_succ]
              refine WT_yes 8 rfl (by kernel_rfl) (fun _ _ _ _ _ h => h) (by rfl) ?_; apply Exists.intro; refine ⟨fun w1 hb1 => ?_, ?_⟩; (focus ((skip; have hb1 := Lib.hid hb1; go_simp); (try (go_bits; try go_simp)); (try (rw [if_pos (by omega)]; try go_simp)); (first | done | (fail) | (with_reducible rfl) | exact rfl)))
              simp only [Act.put, List.setIfInBounds_toArray, List.set_cons_zero, List.set_cons_succ]
              refine WT_one 9 rfl (by kernel_rfl) ?_
              unfold stepT
              obtain ⟨hkx, kx, fx⟩ := KA.out
              go_wp2_with fail
              clear kx fx
              obtain ⟨wj, hwj⟩ : ∃ wj, wi.setCell ⟨B1, 0, none⟩ (.int .i64 (d + more)) = wj := ⟨_, rfl⟩
              rw [hwj]
              have hbj : Below wo.heap.size wi wj := by subst hwj; exact (Below.refl _ _).setCell (p := ⟨B1, 0, none⟩) hB1 _
              have KA2 : Hid (Blk wj B1 #[.int .i64 (d + more), .int .i64 u]) := by subst hwj; exact Lib.hid (KA.out.set 0 _)
              have KB2 : Hid (Blk wj B2 #[.int .i64 d, .int .i64 u]) := by subst hwj; exact Lib.hid (KB.out.other (p := ⟨B1, 0, none⟩) (by dsimp only; omega) _)
              clear hwj
              refine ⟨hbj, ?_⟩
              refine WT_yes 10 rfl (by kernel_rfl) (fun _ _ _ _ _ h => h) (by rfl) ?_; apply Exists.intro; refine ⟨fun w1 hb1 => ?_, ?_⟩; (focus ((skip; have hb1 := Lib.hid hb1; go_simp); (try (go_bits; try go_simp)); (try (rw [if_pos (by omega)]; try go_simp)); (first | done | (fail) | (with_reducible rfl) | exact rfl)))
              simp only [Act.put, List.setIfInBounds_toArray, List.set_cons_zero, List.set_cons_succ]
              refine WT_one 11 rfl (by kernel_rfl) ?_
              unfold stepT
              obtain ⟨hky, ky, fy⟩ := KB2.out
              go_wp2_with fail
              clear ky fy
              obtain ⟨wk, hwk⟩ : ∃ wk, wj.setCell ⟨B2, 1, none⟩ (.int .i64 (u + more)) = wk := ⟨_, rfl⟩
              rw [hwk]
              have hbk : Below wo.heap.size wj wk := by subst hwk; exact (Below.refl _ _).setCell (p := ⟨B2, 1, none⟩) hB2 _
              have KB3 : Hid (Blk wk B2 #[.int .i64 d, .int .i64 (u + more)]) := by subst hwk; exact Lib.hid (KB2.out.set 1 _)
              have KA3 : Hid (Blk wk B1 #[.int .i64 (d + more), .int .i64 u]) := by subst hwk; exact Lib.hid (KA2.out.other (p := ⟨B2, 1, none⟩) (by dsimp only; omega) _)
              clear hwk
              refine ⟨hbk, ?_⟩
              refine WT_done (by kernel_rfl) ?_
              have hbc := Lib.hid ((hTN.out.trans hbj).trans hbk)
              replace HL := Lib.hid (HLc.out.to (HWB.out.trans hbc.out))
              replace HR := Lib.hid (HRc.out.to (HWB.out.trans hbc.out))
              replace HB := Lib.hid (HBc.out.trans ((HWB.out.trans hbc.out).mono HBc.out.size))
              clear hbj hbk hbc KA KB KA2 KB2 T hTN K0
              have hKA := KA3.out.1
              have hKB := KB3.out.1
              go_wp2_with fail
              refine wp_region_tree (by kernel_rfl) (fun w7d hwd => ?_)
              have T := Lib.hid hwd
              clear hwd
              refine WT_yes 0 rfl (by kernel_rfl) (fun _ _ _ _ _ h => h) (by rfl) ?_; apply Exists.intro; refine ⟨fun w1 hb1 => ?_, ?_⟩; (focus ((skip; have hb1 := Lib.hid hb1; go_simp); (try (go_bits; try go_simp)); (try (rw [if_pos (by omega)]; try go_simp)); (first | done | (fail) | (with_reducible rfl) | exact rfl)))
              simp only [Act.put, List.setIfInBounds_toArray, List.set_cons_zero, List.set_cons_succ]
              refine WT_yes 2 rfl (by kernel_rfl) (fun _ _ _ _ _ h => h) (by rfl) ?_; apply Exists.intro; refine ⟨fun w1 hb1 => ?_, ?_⟩; (focus (((obtain ⟨-, k0, -⟩ := (KA3.out.to T.out).below hb1 hKA); have hb1 := Lib.hid hb1; go_simp); (try (go_bits; try go_simp)); (try (rw [if_pos (by omega)]; try go_simp)); (first | done | (fail) | (with_reducible rfl) | exact rfl)))
              simp only [Act.put, List.setIfInBounds_toArray, List.set_cons_zero, List.set_cons_succ]
              refine WT_one 1 rfl (by kernel_rfl) ?_
              unfold stepT
              go_wp2_with fail
              refine (HCP.out _ (HR.out.to T.out)).mono ?_
              rintro e w7c ⟨aC, cC, rfl, hcC, hrC, hb, -⟩
              have hbd := Lib.hid (hb.mono T.out.size)
              replace T := Lib.hid (bThen T.out hb)
              have HA := Lib.hid hrC
              clear hb hrC
              go_wp2_with fail
              refine ⟨hbd.out, ?_⟩
              clear hbd
              refine WT_one 3 rfl (by kernel_rfl) ?_
              unfold stepT
              go_wp2_with fail
              refine (HLT2.out _ _ _ hcC HA.out).mono ?_
              rintro e w7f ⟨aL2, cL2, rfl, hrL, hb⟩
              have hbd := Lib.hid (hb.mono T.out.size)
              replace T := Lib.hid (bThen T.out hb)
              have HL2 := Lib.hid hrL
              clear hrL
              clear hb HA hcC
              go_wp2_with fail
              refine ⟨hbd.out, ?_⟩
              clear hbd
              refine WT_yes 4 rfl (by kernel_rfl) (fun _ _ _ _ _ h => h) (by rfl) ?_; apply Exists.intro; refine ⟨fun w1 hb1 => ?_, ?_⟩; (focus ((skip; have hb1 := Lib.hid hb1; go_simp); (try (go_bits; try go_simp)); (try (rw [if_pos (by omega)]; try go_simp)); (first | done | (fail) | (with_reducible rfl) | exact rfl)))
              simp only [Act.put, List.setIfInBounds_toArray, List.set_cons_zero, List.set_cons_succ]
              refine WT_yes 5 rfl (by kernel_rfl) (fun _ _ _ _ _ h => h) (by rfl) ?_; apply Exists.intro; refine ⟨fun w1 hb1 => ?_, ?_⟩; (focus ((skip; have hb1 := Lib.hid hb1; go_simp); (try (go_bits; try go_simp)); (try (rw [if_pos (by omega)]; try go_simp)); (first | done | (fail) | (with_reducible rfl) | exact rfl)))
              simp only [Act.put, List.setIfInBounds_toArray, List.set_cons_zero, List.set_cons_succ]
              refine WT_yes 6 rfl (by kernel_rfl) (fun _ _ _ _ _ h => h) (by rfl) ?_; apply Exists.intro; refine ⟨fun w1 hb1 => ?_, ?_⟩; (focus ((skip; have hb1 := Lib.hid hb1; go_simp); (try (go_bits; try go_simp)); (try (rw [if_pos (by omega)]; try go_simp)); (first | done | (fail) | (with_reducible rfl) | exact rfl)))
              simp only [Act.put, List.setIfInBounds_toArray, List.set_cons_zero, List.set_cons_succ]
              refine WT_yes 7 rfl (by kernel_rfl) (fun _ _ _ _ _ h => h) (by rfl) ?_; apply Exists.intro; refine ⟨fun w1 hb1 => ?_, ?_⟩; (focus ((skip; have hb1 := Lib.hid hb1; go_simp); (try (go_bits; try go_simp)); (try (rw [if_pos (by omega)]; try go_simp)); (first | done | (fail) | (with_reducible rfl) | exact rfl)))
              simp only [Act.put, List.setIfInBounds_toArray, List.set_cons_zero, List.set_cons_succ]
              refine WT_yes 8 rfl (by kernel_rfl) (fun _ _ _ _ _ h => h) (by rfl) ?_; apply Exists.intro; refine ⟨fun w1 hb1 => ?_, ?_⟩; (focus ((skip; have hb1 := Lib.hid hb1; go_simp); (try (go_bits; try go_simp)); (try (rw [if_pos (by omega)]; try go_simp)); (first | done | (fail) | (with_reducible rfl) | exact rfl)))
              simp only [Act.put, List.setIfInBounds_toArray, List.set_cons_zero, List.set_cons_succ]
              refine WT_done (by kernel_rfl) ?_
              replace KA3 := Lib.hid (KA3.out.to T.out)
              replace KB3 := Lib.hid (KB3.out.to T.out)
              replace HR := Lib.hid (HR.out.to T.out)
              replace HL := Lib.hid (HL.out.to T.out)
              replace HB := Lib.hid (bThen HB.out T.out)
              clear T hKA hKB
              have hKA := KA3.out.1
              have hKB := KB3.out.1
              go_wp2_with fail
              refine wp_region_tree (by kernel_rfl) (fun w8d hwd => ?_)
              have T := Lib.hid hwd
              clear hwd
              refine WT_yes 0 rfl (by kernel_rfl) (fun _ _ _ _ _ h => h) (by rfl) ?_; apply Exists.intro; refine ⟨fun w1 hb1 => ?_, ?_⟩; (focus ((skip; have hb1 := Lib.hid hb1; go_simp); (try (go_bits; try go_simp)); (try (rw [if_pos (by omega)]; try go_simp)); (first | done | (fail) | (with_reducible rfl) | exact rfl)))
              simp only [Act.put, List.setIfInBounds_toArray, List.set_cons_zero, List.set_cons_succ]
              refine WT_yes 2 rfl (by kernel_rfl) (fun _ _ _ _ _ h => h) (by rfl) ?_; apply Exists.intro; refine ⟨fun w1 hb1 => ?_, ?_⟩; (focus (((obtain ⟨-, k0, -⟩ := (KA3.out.to T.out).below hb1 hKA); have hb1 := Lib.hid hb1; go_simp); (try (go_bits; try go_simp)); (try (rw [if_pos (by omega)]; try go_simp)); (first | done | (fail) | (with_reducible rfl) | exact rfl)))
              simp only [Act.put, List.setIfInBounds_toArray, List.set_cons_zero, List.set_cons_succ]
              refine WT_one 1 rfl (by kernel_rfl) ?_
              unfold stepT
              go_wp2_with fail
              refine (HCP.out _ (HR.out.to T.out)).mono ?_
              rintro e w8c ⟨aC, cC, rfl, hcC, hrC, hb, -⟩
              have hbd := Lib.hid (hb.mono T.out.size)
              replace T := Lib.hid (bThen T.out hb)
              have HA := Lib.hid hrC
              clear hb hrC
              go_wp2_with fail
              refine ⟨hbd.out, ?_⟩
              clear hbd
              refine WT_one 3 rfl (by kernel_rfl) ?_
              unfold stepT
              go_wp2_with fail
              refine (HCN2.out _ _ _ hcC HA.out).mono ?_
              rintro e w8f ⟨rfl, hb⟩
              have hbd := Lib.hid (hb.mono T.out.size)
              replace T := Lib.hid (bThen T.out hb)
              clear hb HA hcC
              go_wp2_with fail
              refine ⟨hbd.out, ?_⟩
              clear hbd
              refine WT_yes 4 rfl (by kernel_rfl) (fun _ _ _ _ _ h => h) (by rfl) ?_; apply Exists.intro; refine ⟨fun w1 hb1 => ?_, ?_⟩; (focus ((skip; have hb1 := Lib.hid hb1; go_simp); (try (go_bits; try go_simp)); (try (rw [if_pos (by omega)]; try go_simp)); (first | done | (fail) | (with_reducible rfl) | exact rfl)))
              simp only [Act.put, List.setIfInBounds_toArray, List.set_cons_zero, List.set_cons_succ]
              refine WT_yes 5 rfl (by kernel_rfl) (fun _ _ _ _ _ h => h) (by rfl) ?_; apply Exists.intro; refine ⟨fun w1 hb1 => ?_, ?_⟩; (focus ((skip; have hb1 := Lib.hid hb1; go_simp); (try (go_bits; try go_simp)); (try (rw [if_pos (by omega)]; try go_simp)); (first | done | (fail) | (with_reducible rfl) | exact rfl)))
              simp only [Act.put, List.setIfInBounds_toArray, List.set_cons_zero, List.set_cons_succ]
              refine WT_yes 6 rfl (by kernel_rfl) (fun _ _ _ _ _ h => h) (by rfl) ?_; apply Exists.intro; refine ⟨fun w1 hb1 => ?_, ?_⟩; (focus ((skip; have hb1 := Lib.hid hb1; go_simp); (try (go_bits; try go_simp)); (try (rw [if_pos (by omega)]; try go_simp)); (first | done | (fail) | (with_reducible rfl) | exact rfl)))
              simp only [Act.put, List.setIfInBounds_toArray, List.set_cons_zero, List.set_cons_succ]
              refine WT_yes 7 rfl (by kernel_rfl) (fun _ _ _ _ _ h => h) (by rfl) ?_; apply Exists.intro; refine ⟨fun w1 hb1 => ?_, ?_⟩; (focus ((skip; have hb1 := Lib.hid hb1; go_simp); (try (go_bits; try go_simp)); (try (rw [if_pos (by omega)]; try go_simp)); (first | done | (fail) | (with_reducible rfl) | exact rfl)))
              simp only [Act.put, List.setIfInBounds_toArray, List.set_cons_zero, List.set_cons_succ]
              refine WT_yes 8 rfl (by kernel_rfl) (fun _ _ _ _ _ h => h) (by rfl) ?_; apply Exists.intro; refine ⟨fun w1 hb1 => ?_, ?_⟩; (focus ((skip; have hb1 := Lib.hid hb1; go_simp); (try (go_bits; try go_simp)); (try (rw [if_pos (by omega)]; try go_simp)); (first | done | (fail) | (with_reducible rfl) | exact rfl)))
              simp only [Act.put, List.setIfInBounds_toArray, List.set_cons_zero, List.set_cons_succ]
              refine WT_done (by kernel_rfl) ?_
              replace KA3 := Lib.hid (KA3.out.to T.out)
              replace KB3 := Lib.hid (KB3.out.to T.out)
              replace HR := Lib.hid (HR.out.to T.out)
              replace HL := Lib.hid (HL.out.to T.out)
              replace HL2 := Lib.hid (HL2.out.to T.out)
              replace HB := Lib.hid (bThen HB.out T.out)
              clear T hKA hKB
              have hKA := KA3.out.1
              have hKB := KB3.out.1
              go_wp2_with fail
              refine wp_region_tree (by kernel_rfl) (fun w9d hwd => ?_)
              have T := Lib.hid hwd
              clear hwd
              refine WT_yes 0 rfl (by kernel_rfl) (fun _ _ _ _ _ h => h) (by rfl) ?_; apply Exists.intro; refine ⟨fun w1 hb1 => ?_, ?_⟩; (focus ((skip; have hb1 := Lib.hid hb1; go_simp); (try (go_bits; try go_simp)); (try (rw [if_pos (by omega)]; try go_simp)); (first | done | (fail) | (with_reducible rfl) | exact rfl)))
              simp only [Act.put, List.setIfInBounds_toArray, List.set_cons_zero, List.set_cons_succ]
              refine WT_yes 2 rfl (by kernel_rfl) (fun _ _ _ _ _ h => h) (by rfl) ?_; apply Exists.intro; refine ⟨fun w1 hb1 => ?_, ?_⟩; (focus (((obtain ⟨-, k0, -⟩ := (KB3.out.to T.out).below hb1 hKB); have hb1 := Lib.hid hb1; go_simp); (try (go_bits; try go_simp)); (try (rw [if_pos (by omega)]; try go_simp)); (first | done | (fail) | (with_reducible rfl) | exact rfl)))
              simp only [Act.put, List.setIfInBounds_toArray, List.set_cons_zero, List.set_cons_succ]
              refine WT_one 1 rfl (by kernel_rfl) ?_
              unfold stepT
              go_wp2_with fail
              refine (HCP.out _ (HR.out.to T.out)).mono ?_
              rintro e w9c ⟨aC, cC, rfl, hcC, hrC, hb, -⟩
              have hbd := Lib.hid (hb.mono T.out.size)
              replace T := Lib.hid (bThen T.out hb)
              have HA := Lib.hid hrC
              clear hb hrC
              go_wp2_with fail
              refine ⟨hbd.out, ?_⟩
              clear hbd
              refine WT_one 3 rfl (by kernel_rfl) ?_
              unfold stepT
              go_wp2_with fail
              refine (HLT3.out _ _ _ hcC HA.out).mono ?_
              rintro e w9f ⟨aL3, cL3, rfl, hrL, hb⟩
              have hbd := Lib.hid (hb.mono T.out.size)
              replace T := Lib.hid (bThen T.out hb)
              have HL3 := Lib.hid hrL
              clear hrL
              clear hb HA hcC
              go_wp2_with fail
              refine ⟨hbd.out, ?_⟩
              clear hbd
              refine WT_yes 4 rfl (by kernel_rfl) (fun _ _ _ _ _ h => h) (by rfl) ?_; apply Exists.intro; refine ⟨fun w1 hb1 => ?_, ?_⟩; (focus ((skip; have hb1 := Lib.hid hb1; go_simp); (try (go_bits; try go_simp)); (try (rw [if_pos (by omega)]; try go_simp)); (first | done | (fail) | (with_reducible rfl) | exact rfl)))
              simp only [Act.put, List.setIfInBounds_toArray, List.set_cons_zero, List.set_cons_succ]
              refine WT_yes 5 rfl (by kernel_rfl) (fun _ _ _ _ _ h => h) (by rfl) ?_; apply Exists.intro; refine ⟨fun w1 hb1 => ?_, ?_⟩; (focus ((skip; have hb1 := Lib.hid hb1; go_simp); (try (go_bits; try go_simp)); (try (rw [if_pos (by omega)]; try go_simp)); (first | done | (fail) | (with_reducible rfl) | exact rfl)))
              simp only [Act.put, List.setIfInBounds_toArray, List.set_cons_zero, List.set_cons_succ]
              refine WT_yes 6 rfl (by kernel_rfl) (fun _ _ _ _ _ h => h) (by rfl) ?_; apply Exists.intro; refine ⟨fun w1 hb1 => ?_, ?_⟩; (focus ((skip; have hb1 := Lib.hid hb1; go_simp); (try (go_bits; try go_simp)); (try (rw [if_pos (by omega)]; try go_simp)); (first | done | (fail) | (with_reducible rfl) | exact rfl)))
              simp only [Act.put, List.setIfInBounds_toArray, List.set_cons_zero, List.set_cons_succ]
              refine WT_yes 7 rfl (by kernel_rfl) (fun _ _ _ _ _ h => h) (by rfl) ?_; apply Exists.intro; refine ⟨fun w1 hb1 => ?_, ?_⟩; (focus ((skip; have hb1 := Lib.hid hb1; go_simp); (try (go_bits; try go_simp)); (try (rw [if_pos (by omega)]; try go_simp)); (first | done | (fail) | (with_reducible rfl) | exact rfl)))
              simp only [Act.put, List.setIfInBounds_toArray, List.set_cons_zero, List.set_cons_succ]
              refine WT_yes 8 rfl (by kernel_rfl) (fun _ _ _ _ _ h => h) (by rfl) ?_; apply Exists.intro; refine ⟨fun w1 hb1 => ?_, ?_⟩; (focus ((skip; have hb1 := Lib.hid hb1; go_simp); (try (go_bits; try go_simp)); (try (rw [if_pos (by omega)]; try go_simp)); (first | done | (fail) | (with_reducible rfl) | exact rfl)))
              simp only [Act.put, List.setIfInBounds_toArray, List.set_cons_zero, List.set_cons_succ]
              refine WT_done (by kernel_rfl) ?_
              replace HL := Lib.hid (HL.out.to T.out)
              replace HL2 := Lib.hid (HL2.out.to T.out)
              replace HB := Lib.hid (bThen HB.out T.out)
              clear T hKA hKB KA3 KB3
              have hnn : decide (nb < (n : Int)) = false := decide_eq_false (by omega)
              go_wp2_with fail
              go_loopw [23] (fun v wr2 => ∃ k : Nat, k ≤ L2.length ∧ v = .int .i64 k ∧ Hid (w9f = wr2)) (fun v _ => L2.length - (intOf v).toNat)
              case atStart => exact ⟨0, Nat.zero_le _, rfl, Lib.hid rfl⟩
              case round =>
                obtain ⟨k2, hk2, rfl, hw2⟩ := hrel
                replace HL := Lib.hid (show Reads _ _ _ _ from hw2.out ▸ HL.out)
                replace HL2 := Lib.hid (show Reads _ _ _ _ from hw2.out ▸ HL2.out)
                replace HL3 := Lib.hid (show Reads _ _ _ _ from hw2.out ▸ HL3.out)
                by_cases hlt2 : k2 < L2.length
                · skip
                  obtain ⟨b2, o2, rfl, hb2, hc2⟩ := HL2.out.at hlt2
                  have c4 := hc2 k2 hlt2
                  unfold ints at c4
                  have hin := Lib.hid (HS2.out k2 hlt2)
                  obtain ⟨g2, hg2⟩ : ∃ g, gi L2 k2 = g := ⟨_, rfl⟩
                  rw [hg2] at c4 hin
                  clear hc2 hg2
                  have hI : decide ((k2 : Int) < (L2.length : Int)) = true := decide_eq_true (by omega)
                  go_wp2_with (go_at_call 34; refine (Has_any L _ _ _ _ (by omega) HL.out).mono ?_; rintro e w' ⟨rfl, rfl⟩; rw [decide_eq_true hin.out])
                  go_roundw
                  case rel => exact ⟨k2 + 1, by omega, by go_num, hw2⟩
                  case measure => simp [intOf]; omega
                · skip
                  have hI : decide ((k2 : Int) < (L2.length : Int)) = false := decide_eq_false (by omega)
                  have hI2 : decide (k2 < L2.length) = false := decide_eq_false hlt2
                  go_upto_region 35 with (fail)
                  clear hI hI2 hlt2
                  go_wp2_with fail
                  go_loopw [24] (fun v wr3 => ∃ k : Nat, k ≤ L.length ∧ v = .int .i64 k ∧ Hid (wr = wr3)) (fun v _ => L.length - (intOf v).toNat)
                  case atStart => exact ⟨0, Nat.zero_le _, rfl, Lib.hid rfl⟩
                  case round =>
                    obtain ⟨k3, hk3, rfl, hw3⟩ := hrel
                    replace HL := Lib.hid (show Reads _ _ _ _ from hw3.out ▸ HL.out)
                    replace HL3 := Lib.hid (show Reads _ _ _ _ from hw3.out ▸ HL3.out)
                    by_cases hlt3 : k3 < L.length
                    · skip
                      obtain ⟨b2, o2, rfl, hb2, hc2⟩ := HL.out.at hlt3
                      have c4 := hc2 k3 hlt3
                      unfold ints at c4
                      have hin := Lib.hid (HS3.out k3 hlt3)
                      obtain ⟨g2, hg2⟩ : ∃ g, gi L k3 = g := ⟨_, rfl⟩
                      rw [hg2] at c4 hin
                      clear hc2 hg2
                      have hI3 : decide ((k3 : Int) < (L.length : Int)) = true := decide_eq_true (by omega)
                      go_wp2_with (go_at_call 34; refine (Has_any L3 _ _ _ _ (by omega) HL3.out).mono ?_; rintro e w' ⟨rfl, rfl⟩; rw [decide_eq_true hin.out])
                      go_roundw
                      case rel => exact ⟨k3 + 1, by omega, by go_num, hw3⟩
                      case measure => simp [intOf]; omega
                    · skip
                      have hI3 : decide ((k3 : Int) < (L.length : Int)) = false := decide_eq_false (by omega)
                      have hI4 : decide (k3 < L.length) = false := decide_eq_false hlt3
                      go_wp2_with fail
                      go_ret
                      exact ⟨rfl, by rw [← hw3.out, ← hw2.out]; exact HB.out⟩

end Go.Proofs.Ytjieojkfpoiabaa
