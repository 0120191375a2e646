/-
  The statement HybridMessages: the walk.
-/
import Derived.Test.YtjieojkfpoiabaaH3
namespace Go.Proofs.Ytjieojkfpoiabaa
open Go.RowKit

theorem open_split (ms : List Msg) (d u : Int) : ((chkM ms).2 = 0 ∧ clkE ms d u = openE ms d u) ∨ ((chkM ms).2 ≠ 0 ∧ (chkM ms).2 = openE ms d u) := by
  unfold openE clkE
  by_cases h : (chkM ms).2 = 0
  · refine .inl ⟨h, ?_⟩
    rw [h]
    conv => rhs; unfold firstE; rw [if_pos rfl]
  · refine .inr ⟨h, ?_⟩
    conv => rhs; unfold firstE; rw [if_neg h]

set_option maxHeartbeats 4000000 in
set_option maxRecDepth 100000 in
theorem HybridMessages_few (ms : List Msg) (a : Option Addr) (cap : Nat) (d u : Int) (w : World) (hfew : ms.length ≤ 62) (hr : Reads w a (ms.length * 3) (msgs ms)) :
    Calls Try.prog 5 #[.slice a ms.length cap, .agg #[.int .i64 d, .int .i64 u]] w fun e w' => e = .returned (.bool true) ∧ Below w.heap.size w w' := by
  have HR0 := Lib.hid hr
  clear hr
  have HCP := Lib.hid (fun (W : World) h => CopyMessages_any ms a cap W (by omega) h)
  have HCM := Lib.hid (fun (a : Option Addr) (cap : Nat) (W : World) h => CheckMessages_any ms a cap W (by unfold maxLen; omega) h)
  have HRM := Lib.hid (fun (W : World) h => rCheckMessages_any ms a cap W (by unfold maxLen; omega) h)
  have HCK := Lib.hid (fun (W : World) h => ClockErr_any ms a cap d u W (by unfold maxLen; omega) h)
  have hsp := open_split ms d u
  obtain ⟨⟨c1, c2⟩, hcm⟩ : ∃ p, chkM ms = p := ⟨_, rfl⟩
  rw [hcm] at HCM HRM hsp
  obtain ⟨ck, hck⟩ : ∃ ck, clkE ms d u = ck := ⟨_, rfl⟩
  rw [hck] at HCK hsp
  dsimp only at HCM HRM hsp
  have hc11 : (c1 != c1) = false := by simp
  have hc22 : (c2 != c2) = false := by simp
  clear hck hcm
  by_cases hE : openE ms d u = 0
  · have hok := openE_zero hE
    have HLT := Lib.hid (fun (a : Option Addr) (cap : Nat) (W : World) hc h => LateIn_ok ms a cap d u W (by unfold maxLen; omega) hc h hE)
    have HHD := Lib.hid (fun (a : Option Addr) (cap : Nat) (W : World) hc h => HeldAt_ok ms a cap d u W (by unfold maxLen; omega) hc h hE)
    have HCN := Lib.hid (fun (a : Option Addr) (cap : Nat) (W : World) hc h => CountIn_ok ms a cap d u W (by unfold maxLen; omega) hc h hE)
    have HRL := Lib.hid (fun (W : World) h => rLate_any ms a cap d u W hok h)
    have HRH := Lib.hid (fun (W : World) h => rHeld_any ms a cap d u W hok h)
    have HRC := Lib.hid (fun (W : World) h => rCount_any ms a cap d u W hok h)
    rw [lateL_eq hok] at HLT
    have hheld := held_eq ms d u
    rw [hE] at hsp
    have h22 : c2 = 0 ∧ ck = 0 := by
      rcases hsp with h | ⟨h1, h2⟩
      · exact h
      · exact absurd h2 h1
    obtain ⟨rfl, rfl⟩ := h22
    have hll : (lateN ms d u).length ≤ 100 := by
      unfold lateN lateJ
      rw [List.length_map]
      have := List.length_filter_le (isLate ms d u) (List.range ((ms.length + 1) / 2))
      simp only [List.length_range] at this
      omega
    obtain ⟨ll, hlE⟩ : ∃ ll, lateN ms d u = ll := ⟨_, rfl⟩
    rw [hlE] at HLT HRL hll
    obtain ⟨⟨h1, h2⟩, hhE⟩ : ∃ p, heldE ms d u = p := ⟨_, rfl⟩
    obtain ⟨⟨t1, t2⟩, htE⟩ : ∃ p, heldR ms d u = p := ⟨_, rfl⟩
    obtain ⟨cn, hcE⟩ : ∃ p, countE ms d u = p := ⟨_, rfl⟩
    rw [hhE] at HHD hheld
    rw [htE] at HRH hheld
    rw [hcE] at HCN HRC
    dsimp only at HHD HRH hheld
    have hcnn : (cn == cn) = true := by simp
    clear hlE hhE htE hcE hsp hE hok
    obtain ⟨m, hm⟩ : ∃ m, ms.length = m := ⟨_, rfl⟩
    rw [hm] at HR0 HCP HCM HRM HCK HLT HHD HCN HRL HRH HRC hfew ⊢
    clear hm
    go_enter Try.func5, Try.ntmps5
    go_wp2_with fail
    refine (awake_any _).mono ?_
    rintro e w1 ⟨rfl, hb⟩
    have K0 := Lib.hid ((Blk.new w #[.int .i64 d, .int .i64 u] 45).to hb)
    have HB := Lib.hid (bThen (bAlloc (bSelf w) (.cells #[.int .i64 d, .int .i64 u] 45)) hb)
    have HR := Lib.hid ((HR0.out.alloc (.cells #[.int .i64 d, .int .i64 u] 45)).to hb)
    clear hb
    go_wp2_with fail
    refine (HCP.out _ HR.out).mono ?_
    rintro e w2 ⟨aC, cC, rfl, hcC, hrC, hb, -⟩
    replace K0 := Lib.hid (K0.out.to hb)
    replace HR := Lib.hid (HR.out.to hb)
    replace HB := Lib.hid (bThen HB.out hb)
    clear hb
    go_wp2_with fail
    refine (HCM.out _ _ _ hrC).mono ?_
    rintro e w3 ⟨rfl, hb⟩
    replace K0 := Lib.hid (K0.out.to hb)
    replace HR := Lib.hid (HR.out.to hb)
    replace HB := Lib.hid (bThen HB.out hb)
    clear hb hrC hcC
    have hK0 := K0.out.1
    go_wp2_with fail
    refine wp_region_tree (by kernel_rfl) (fun w4d hwd => ?_)
    have T := Lib.hid hwd
    clear hwd
    refine WT_yes 0 rfl (by kernel_rfl) (fun _ _ _ _ _ h => h) (by rfl) ?_; apply Exists.intro; refine ⟨fun w1 hb1 => ?_, ?_⟩; (focus ((skip; have hb1 := Lib.hid hb1; go_simp); (try (go_bits; try go_simp)); (try (rw [if_pos (by omega)]; try go_simp)); (first | done | (fail) | (with_reducible rfl) | exact rfl)))
    simp only [Act.put, List.setIfInBounds_toArray, List.set_cons_zero, List.set_cons_succ]
    refine WT_yes 2 rfl (by kernel_rfl) (fun _ _ _ _ _ h => h) (by rfl) ?_; apply Exists.intro; refine ⟨fun w1 hb1 => ?_, ?_⟩; (focus (((obtain ⟨-, k0, -⟩ := (K0.out.to T.out).below hb1 hK0); have hb1 := Lib.hid hb1; go_simp); (try (go_bits; try go_simp)); (try (rw [if_pos (by omega)]; try go_simp)); (first | done | (fail) | (with_reducible rfl) | exact rfl)))
    simp only [Act.put, List.setIfInBounds_toArray, List.set_cons_zero, List.set_cons_succ]
    refine WT_one 1 rfl (by kernel_rfl) ?_
    unfold stepT
    go_wp2_with fail
    refine (HCP.out _ (HR.out.to T.out)).mono ?_
    rintro e w4c ⟨aC, cC, rfl, hcC, hrC, hb, -⟩
    have hbd := Lib.hid (hb.mono T.out.size)
    replace T := Lib.hid (bThen T.out hb)
    have HA := Lib.hid hrC
    clear hb hrC
    go_wp2_with fail
    refine ⟨hbd.out, ?_⟩
    clear hbd
    refine WT_one 3 rfl (by kernel_rfl) ?_
    unfold stepT
    go_wp2_with fail
    refine (HLT.out _ _ _ hcC HA.out).mono ?_
    rintro e w4f ⟨aL, cL, rfl, hrL, hb⟩
    have hbd := Lib.hid (hb.mono T.out.size)
    replace T := Lib.hid (bThen T.out hb)
    have HL := Lib.hid hrL
    clear hrL
    clear hb HA hcC
    go_wp2_with fail
    refine ⟨hbd.out, ?_⟩
    clear hbd
    refine WT_yes 4 rfl (by kernel_rfl) (fun _ _ _ _ _ h => h) (by rfl) ?_; apply Exists.intro; refine ⟨fun w1 hb1 => ?_, ?_⟩; (focus ((skip; have hb1 := Lib.hid hb1; go_simp); (try (go_bits; try go_simp)); (try (rw [if_pos (by omega)]; try go_simp)); (first | done | (fail) | (with_reducible rfl) | exact rfl)))
    simp only [Act.put, List.setIfInBounds_toArray, List.set_cons_zero, List.set_cons_succ]
    refine WT_yes 5 rfl (by kernel_rfl) (fun _ _ _ _ _ h => h) (by rfl) ?_; apply Exists.intro; refine ⟨fun w1 hb1 => ?_, ?_⟩; (focus ((skip; have hb1 := Lib.hid hb1; go_simp); (try (go_bits; try go_simp)); (try (rw [if_pos (by omega)]; try go_simp)); (first | done | (fail) | (with_reducible rfl) | exact rfl)))
    simp only [Act.put, List.setIfInBounds_toArray, List.set_cons_zero, List.set_cons_succ]
    refine WT_yes 6 rfl (by kernel_rfl) (fun _ _ _ _ _ h => h) (by rfl) ?_; apply Exists.intro; refine ⟨fun w1 hb1 => ?_, ?_⟩; (focus ((skip; have hb1 := Lib.hid hb1; go_simp); (try (go_bits; try go_simp)); (try (rw [if_pos (by omega)]; try go_simp)); (first | done | (fail) | (with_reducible rfl) | exact rfl)))
    simp only [Act.put, List.setIfInBounds_toArray, List.set_cons_zero, List.set_cons_succ]
    refine WT_yes 7 rfl (by kernel_rfl) (fun _ _ _ _ _ h => h) (by rfl) ?_; apply Exists.intro; refine ⟨fun w1 hb1 => ?_, ?_⟩; (focus ((skip; have hb1 := Lib.hid hb1; go_simp); (try (go_bits; try go_simp)); (try (rw [if_pos (by omega)]; try go_simp)); (first | done | (fail) | (with_reducible rfl) | exact rfl)))
    simp only [Act.put, List.setIfInBounds_toArray, List.set_cons_zero, List.set_cons_succ]
    refine WT_yes 8 rfl (by kernel_rfl) (fun _ _ _ _ _ h => h) (by rfl) ?_; apply Exists.intro; refine ⟨fun w1 hb1 => ?_, ?_⟩; (focus ((skip; have hb1 := Lib.hid hb1; go_simp); (try (go_bits; try go_simp)); (try (rw [if_pos (by omega)]; try go_simp)); (first | done | (fail) | (with_reducible rfl) | exact rfl)))
    simp only [Act.put, List.setIfInBounds_toArray, List.set_cons_zero, List.set_cons_succ]
    refine WT_done (by kernel_rfl) ?_
    replace K0 := Lib.hid (K0.out.to T.out)
    replace HB := Lib.hid (bThen HB.out T.out)
    replace HR := Lib.hid (HR.out.to T.out)
    clear T hK0
    have hK0 := K0.out.1
    go_wp2_with fail
    refine wp_region_tree (by kernel_rfl) (fun w5d hwd => ?_)
    have T := Lib.hid hwd
    clear hwd
    refine WT_yes 0 rfl (by kernel_rfl) (fun _ _ _ _ _ h => h) (by rfl) ?_; apply Exists.intro; refine ⟨fun w1 hb1 => ?_, ?_⟩; (focus ((skip; have hb1 := Lib.hid hb1; go_simp); (try (go_bits; try go_simp)); (try (rw [if_pos (by omega)]; try go_simp)); (first | done | (fail) | (with_reducible rfl) | exact rfl)))
    simp only [Act.put, List.setIfInBounds_toArray, List.set_cons_zero, List.set_cons_succ]
    refine WT_yes 2 rfl (by kernel_rfl) (fun _ _ _ _ _ h => h) (by rfl) ?_; apply Exists.intro; refine ⟨fun w1 hb1 => ?_, ?_⟩; (focus (((obtain ⟨-, k0, -⟩ := (K0.out.to T.out).below hb1 hK0); have hb1 := Lib.hid hb1; go_simp); (try (go_bits; try go_simp)); (try (rw [if_pos (by omega)]; try go_simp)); (first | done | (fail) | (with_reducible rfl) | exact rfl)))
    simp only [Act.put, List.setIfInBounds_toArray, List.set_cons_zero, List.set_cons_succ]
    refine WT_one 1 rfl (by kernel_rfl) ?_
    unfold stepT
    go_wp2_with fail
    refine (HCP.out _ (HR.out.to T.out)).mono ?_
    rintro e w5c ⟨aC, cC, rfl, hcC, hrC, hb, -⟩
    have hbd := Lib.hid (hb.mono T.out.size)
    replace T := Lib.hid (bThen T.out hb)
    have HA := Lib.hid hrC
    clear hb hrC
    go_wp2_with fail
    refine ⟨hbd.out, ?_⟩
    clear hbd
    refine WT_one 3 rfl (by kernel_rfl) ?_
    unfold stepT
    go_wp2_with fail
    refine (HHD.out _ _ _ hcC HA.out).mono ?_
    rintro e w5f ⟨rfl, hb⟩
    have hbd := Lib.hid (hb.mono T.out.size)
    replace T := Lib.hid (bThen T.out hb)
    clear hb HA hcC
    go_wp2_with fail
    refine ⟨hbd.out, ?_⟩
    clear hbd
    refine WT_yes 4 rfl (by kernel_rfl) (fun _ _ _ _ _ h => h) (by rfl) ?_; apply Exists.intro; refine ⟨fun w1 hb1 => ?_, ?_⟩; (focus ((skip; have hb1 := Lib.hid hb1; go_simp); (try (go_bits; try go_simp)); (try (rw [if_pos (by omega)]; try go_simp)); (first | done | (fail) | (with_reducible rfl) | exact rfl)))
    simp only [Act.put, List.setIfInBounds_toArray, List.set_cons_zero, List.set_cons_succ]
    refine WT_yes 5 rfl (by kernel_rfl) (fun _ _ _ _ _ h => h) (by rfl) ?_; apply Exists.intro; refine ⟨fun w1 hb1 => ?_, ?_⟩; (focus ((skip; have hb1 := Lib.hid hb1; go_simp); (try (go_bits; try go_simp)); (try (rw [if_pos (by omega)]; try go_simp)); (first | done | (fail) | (with_reducible rfl) | exact rfl)))
    simp only [Act.put, List.setIfInBounds_toArray, List.set_cons_zero, List.set_cons_succ]
    refine WT_yes 6 rfl (by kernel_rfl) (fun _ _ _ _ _ h => h) (by rfl) ?_; apply Exists.intro; refine ⟨fun w1 hb1 => ?_, ?_⟩; (focus ((skip; have hb1 := Lib.hid hb1; go_simp); (try (go_bits; try go_simp)); (try (rw [if_pos (by omega)]; try go_simp)); (first | done | (fail) | (with_reducible rfl) | exact rfl)))
    simp only [Act.put, List.setIfInBounds_toArray, List.set_cons_zero, List.set_cons_succ]
    refine WT_yes 7 rfl (by kernel_rfl) (fun _ _ _ _ _ h => h) (by rfl) ?_; apply Exists.intro; refine ⟨fun w1 hb1 => ?_, ?_⟩; (focus ((skip; have hb1 := Lib.hid hb1; go_simp); (try (go_bits; try go_simp)); (try (rw [if_pos (by omega)]; try go_simp)); (first | done | (fail) | (with_reducible rfl) | exact rfl)))
    simp only [Act.put, List.setIfInBounds_toArray, List.set_cons_zero, List.set_cons_succ]
    refine WT_yes 8 rfl (by kernel_rfl) (fun _ _ _ _ _ h => h) (by rfl) ?_; apply Exists.intro; refine ⟨fun w1 hb1 => ?_, ?_⟩; (focus ((skip; have hb1 := Lib.hid hb1; go_simp); (try (go_bits; try go_simp)); (try (rw [if_pos (by omega)]; try go_simp)); (first | done | (fail) | (with_reducible rfl) | exact rfl)))
    simp only [Act.put, List.setIfInBounds_toArray, List.set_cons_zero, List.set_cons_succ]
    refine WT_done (by kernel_rfl) ?_
    replace K0 := Lib.hid (K0.out.to T.out)
    replace HB := Lib.hid (bThen HB.out T.out)
    replace HR := Lib.hid (HR.out.to T.out)
    replace HL := Lib.hid (HL.out.to T.out)
    clear T hK0
    have hK0 := K0.out.1
    go_wp2_with fail
    refine wp_region_tree (by kernel_rfl) (fun w6d hwd => ?_)
    have T := Lib.hid hwd
    clear hwd
    refine WT_yes 0 rfl (by kernel_rfl) (fun _ _ _ _ _ h => h) (by rfl) ?_; apply Exists.intro; refine ⟨fun w1 hb1 => ?_, ?_⟩; (focus ((skip; have hb1 := Lib.hid hb1; go_simp); (try (go_bits; try go_simp)); (try (rw [if_pos (by omega)]; try go_simp)); (first | done | (fail) | (with_reducible rfl) | exact rfl)))
    simp only [Act.put, List.setIfInBounds_toArray, List.set_cons_zero, List.set_cons_succ]
    refine WT_yes 2 rfl (by kernel_rfl) (fun _ _ _ _ _ h => h) (by rfl) ?_; apply Exists.intro; refine ⟨fun w1 hb1 => ?_, ?_⟩; (focus (((obtain ⟨-, k0, -⟩ := (K0.out.to T.out).below hb1 hK0); have hb1 := Lib.hid hb1; go_simp); (try (go_bits; try go_simp)); (try (rw [if_pos (by omega)]; try go_simp)); (first | done | (fail) | (with_reducible rfl) | exact rfl)))
    simp only [Act.put, List.setIfInBounds_toArray, List.set_cons_zero, List.set_cons_succ]
    refine WT_one 1 rfl (by kernel_rfl) ?_
    unfold stepT
    go_wp2_with fail
    refine (HCP.out _ (HR.out.to T.out)).mono ?_
    rintro e w6c ⟨aC, cC, rfl, hcC, hrC, hb, -⟩
    have hbd := Lib.hid (hb.mono T.out.size)
    replace T := Lib.hid (bThen T.out hb)
    have HA := Lib.hid hrC
    clear hb hrC
    go_wp2_with fail
    refine ⟨hbd.out, ?_⟩
    clear hbd
    refine WT_one 3 rfl (by kernel_rfl) ?_
    unfold stepT
    go_wp2_with fail
    refine (HCN.out _ _ _ hcC HA.out).mono ?_
    rintro e w6f ⟨rfl, hb⟩
    have hbd := Lib.hid (hb.mono T.out.size)
    replace T := Lib.hid (bThen T.out hb)
    clear hb HA hcC
    go_wp2_with fail
    refine ⟨hbd.out, ?_⟩
    clear hbd
    refine WT_yes 4 rfl (by kernel_rfl) (fun _ _ _ _ _ h => h) (by rfl) ?_; apply Exists.intro; refine ⟨fun w1 hb1 => ?_, ?_⟩; (focus ((skip; have hb1 := Lib.hid hb1; go_simp); (try (go_bits; try go_simp)); (try (rw [if_pos (by omega)]; try go_simp)); (first | done | (fail) | (with_reducible rfl) | exact rfl)))
    simp only [Act.put, List.setIfInBounds_toArray, List.set_cons_zero, List.set_cons_succ]
    refine WT_yes 5 rfl (by kernel_rfl) (fun _ _ _ _ _ h => h) (by rfl) ?_; apply Exists.intro; refine ⟨fun w1 hb1 => ?_, ?_⟩; (focus ((skip; have hb1 := Lib.hid hb1; go_simp); (try (go_bits; try go_simp)); (try (rw [if_pos (by omega)]; try go_simp)); (first | done | (fail) | (with_reducible rfl) | exact rfl)))
    simp only [Act.put, List.setIfInBounds_toArray, List.set_cons_zero, List.set_cons_succ]
    refine WT_yes 6 rfl (by kernel_rfl) (fun _ _ _ _ _ h => h) (by rfl) ?_; apply Exists.intro; refine ⟨fun w1 hb1 => ?_, ?_⟩; (focus ((skip; have hb1 := Lib.hid hb1; go_simp); (try (go_bits; try go_simp)); (try (rw [if_pos (by omega)]; try go_simp)); (first | done | (fail) | (with_reducible rfl) | exact rfl)))
    simp only [Act.put, List.setIfInBounds_toArray, List.set_cons_zero, List.set_cons_succ]
    refine WT_yes 7 rfl (by kernel_rfl) (fun _ _ _ _ _ h => h) (by rfl) ?_; apply Exists.intro; refine ⟨fun w1 hb1 => ?_, ?_⟩; (focus ((skip; have hb1 := Lib.hid hb1; go_simp); (try (go_bits; try go_simp)); (try (rw [if_pos (by omega)]; try go_simp)); (first | done | (fail) | (with_reducible rfl) | exact rfl)))
    simp only [Act.put, List.setIfInBounds_toArray, List.set_cons_zero, List.set_cons_succ]
    refine WT_yes 8 rfl (by kernel_rfl) (fun _ _ _ _ _ h => h) (by rfl) ?_; apply Exists.intro; refine ⟨fun w1 hb1 => ?_, ?_⟩; (focus ((skip; have hb1 := Lib.hid hb1; go_simp); (try (go_bits; try go_simp)); (try (rw [if_pos (by omega)]; try go_simp)); (first | done | (fail) | (with_reducible rfl) | exact rfl)))
    simp only [Act.put, List.setIfInBounds_toArray, List.set_cons_zero, List.set_cons_succ]
    refine WT_done (by kernel_rfl) ?_
    replace K0 := Lib.hid (K0.out.to T.out)
    replace HB := Lib.hid (bThen HB.out T.out)
    replace HR := Lib.hid (HR.out.to T.out)
    replace HL := Lib.hid (HL.out.to T.out)
    clear T hK0
    go_wp2_with fail
    refine (HRM.out _ HR.out).mono ?_
    rintro e w7 ⟨rfl, hb⟩
    replace K0 := Lib.hid (K0.out.to hb)
    replace HR := Lib.hid (HR.out.to hb)
    replace HL := Lib.hid (HL.out.to hb)
    replace HB := Lib.hid (bThen HB.out hb)
    clear hb
    obtain ⟨-, k0, -⟩ := K0.out
    go_wp2_with fail
    refine (HCK.out _ HR.out).mono ?_
    rintro e w8 ⟨rfl, hb⟩
    replace K0 := Lib.hid (K0.out.to hb)
    replace HR := Lib.hid (HR.out.to hb)
    replace HL := Lib.hid (HL.out.to hb)
    replace HB := Lib.hid (bThen HB.out hb)
    clear hb k0
    obtain ⟨-, k0, -⟩ := K0.out
    go_wp2_with fail
    refine (HRH.out _ HR.out).mono ?_
    rintro e w9 ⟨rfl, hb⟩
    replace K0 := Lib.hid (K0.out.to hb)
    replace HR := Lib.hid (HR.out.to hb)
    replace HL := Lib.hid (HL.out.to hb)
    replace HB := Lib.hid (bThen HB.out hb)
    clear hb k0
    obtain ⟨-, k0, -⟩ := K0.out
    go_wp2_with fail
    refine (HRL.out _ HR.out).mono ?_
    rintro e wa ⟨aM, cM, rfl, hrM, hb⟩
    replace K0 := Lib.hid (K0.out.to hb)
    replace HR := Lib.hid (HR.out.to hb)
    replace HL := Lib.hid (HL.out.to hb)
    replace HB := Lib.hid (bThen HB.out hb)
    clear hb k0
    go_wp2_with fail
    refine (Ints_any ll ll _ _ _ _ _ (by unfold maxLen; omega) HL.out hrM).mono ?_
    rintro e wb ⟨rfl, hb⟩
    replace K0 := Lib.hid (K0.out.to hb)
    replace HR := Lib.hid (HR.out.to hb)
    replace HB := Lib.hid (bThen HB.out hb)
    clear hb hrM
    rw [decide_eq_true (Eq.refl _)]
    obtain ⟨-, k0, -⟩ := K0.out
    go_wp2_with fail
    refine (HRC.out _ HR.out).mono ?_
    rintro e wc ⟨rfl, hb⟩
    replace HB := Lib.hid (bThen HB.out hb)
    clear hb k0
    have htt : (t1 == t1) = true := by simp
    rcases hheld with ⟨rfl, he⟩ | ⟨rfl, he⟩
    · cases he
      go_wp2_with fail
      go_ret
      exact ⟨rfl, HB.out⟩
    · cases he
      go_wp2_with fail
      go_ret
      exact ⟨rfl, HB.out⟩
  · have HLT := Lib.hid (fun (a : Option Addr) (cap : Nat) (W : World) h => LateIn_err ms a cap d u W (by unfold maxLen; omega) h hE)
    have HHD := Lib.hid (fun (a : Option Addr) (cap : Nat) (W : World) h => HeldAt_err ms a cap d u W (by unfold maxLen; omega) h hE)
    have HCN := Lib.hid (fun (a : Option Addr) (cap : Nat) (W : World) h => CountIn_err ms a cap d u W (by unfold maxLen; omega) h hE)
    obtain ⟨E, hEE⟩ : ∃ E, openE ms d u = E := ⟨_, rfl⟩
    rw [hEE] at HLT HHD HCN hsp hE
    have hEb : (E != 0) = true := by simpa using hE
    have hEe : (E == E) = true := by simp
    have HE := Lib.hid hE
    clear hEE hE
    obtain ⟨m, hm⟩ : ∃ m, ms.length = m := ⟨_, rfl⟩
    rw [hm] at HR0 HCP HCM HRM HCK HLT HHD HCN hfew ⊢
    clear hm
    go_enter Try.func5, Try.ntmps5
    go_wp2_with fail
    refine (awake_any _).mono ?_
    rintro e w1 ⟨rfl, hb⟩
    have K0 := Lib.hid ((Blk.new w #[.int .i64 d, .int .i64 u] 45).to hb)
    have HB := Lib.hid (bThen (bAlloc (bSelf w) (.cells #[.int .i64 d, .int .i64 u] 45)) hb)
    have HR := Lib.hid ((HR0.out.alloc (.cells #[.int .i64 d, .int .i64 u] 45)).to hb)
    clear hb
    go_wp2_with fail
    refine (HCP.out _ HR.out).mono ?_
    rintro e w2 ⟨aC, cC, rfl, hcC, hrC, hb, -⟩
    replace K0 := Lib.hid (K0.out.to hb)
    replace HR := Lib.hid (HR.out.to hb)
    replace HB := Lib.hid (bThen HB.out hb)
    clear hb
    go_wp2_with fail
    refine (HCM.out _ _ _ hrC).mono ?_
    rintro e w3 ⟨rfl, hb⟩
    replace K0 := Lib.hid (K0.out.to hb)
    replace HR := Lib.hid (HR.out.to hb)
    replace HB := Lib.hid (bThen HB.out hb)
    clear hb hrC hcC
    have hK0 := K0.out.1
    go_wp2_with fail
    refine wp_region_tree (by kernel_rfl) (fun w4d hwd => ?_)
    have T := Lib.hid hwd
    clear hwd
    refine WT_yes 0 rfl (by kernel_rfl) (fun _ _ _ _ _ h => h) (by rfl) ?_; apply Exists.intro; refine ⟨fun w1 hb1 => ?_, ?_⟩; (focus ((skip; have hb1 := Lib.hid hb1; go_simp); (try (go_bits; try go_simp)); (try (rw [if_pos (by omega)]; try go_simp)); (first | done | (fail) | (with_reducible rfl) | exact rfl)))
    simp only [Act.put, List.setIfInBounds_toArray, List.set_cons_zero, List.set_cons_succ]
    refine WT_yes 2 rfl (by kernel_rfl) (fun _ _ _ _ _ h => h) (by rfl) ?_; apply Exists.intro; refine ⟨fun w1 hb1 => ?_, ?_⟩; (focus (((obtain ⟨-, k0, -⟩ := (K0.out.to T.out).below hb1 hK0); have hb1 := Lib.hid hb1; go_simp); (try (go_bits; try go_simp)); (try (rw [if_pos (by omega)]; try go_simp)); (first | done | (fail) | (with_reducible rfl) | exact rfl)))
    simp only [Act.put, List.setIfInBounds_toArray, List.set_cons_zero, List.set_cons_succ]
    refine WT_one 1 rfl (by kernel_rfl) ?_
    unfold stepT
    go_wp2_with fail
    refine (HCP.out _ (HR.out.to T.out)).mono ?_
    rintro e w4c ⟨aC, cC, rfl, hcC, hrC, hb, -⟩
    have hbd := Lib.hid (hb.mono T.out.size)
    replace T := Lib.hid (bThen T.out hb)
    have HA := Lib.hid hrC
    clear hb hrC
    go_wp2_with fail
    refine ⟨hbd.out, ?_⟩
    clear hbd
    refine WT_one 3 rfl (by kernel_rfl) ?_
    unfold stepT
    go_wp2_with fail
    refine (HLT.out _ _ _ HA.out).mono ?_
    rintro e w4f ⟨rfl, hb⟩
    have hbd := Lib.hid (hb.mono T.out.size)
    replace T := Lib.hid (bThen T.out hb)
    clear hb HA hcC
    go_wp2_with fail
    refine ⟨hbd.out, ?_⟩
    clear hbd
    refine WT_yes 4 rfl (by kernel_rfl) (fun _ _ _ _ _ h => h) (by rfl) ?_; apply Exists.intro; refine ⟨fun w1 hb1 => ?_, ?_⟩; (focus ((skip; have hb1 := Lib.hid hb1; go_simp); (try (go_bits; try go_simp)); (try (rw [if_pos (by omega)]; try go_simp)); (first | done | (fail) | (with_reducible rfl) | exact rfl)))
    simp only [Act.put, List.setIfInBounds_toArray, List.set_cons_zero, List.set_cons_succ]
    refine WT_yes 5 rfl (by kernel_rfl) (fun _ _ _ _ _ h => h) (by rfl) ?_; apply Exists.intro; refine ⟨fun w1 hb1 => ?_, ?_⟩; (focus ((skip; have hb1 := Lib.hid hb1; go_simp); (try (go_bits; try go_simp)); (try (rw [if_pos (by omega)]; try go_simp)); (first | done | (fail) | (with_reducible rfl) | exact rfl)))
    simp only [Act.put, List.setIfInBounds_toArray, List.set_cons_zero, List.set_cons_succ]
    refine WT_yes 6 rfl (by kernel_rfl) (fun _ _ _ _ _ h => h) (by rfl) ?_; apply Exists.intro; refine ⟨fun w1 hb1 => ?_, ?_⟩; (focus ((skip; have hb1 := Lib.hid hb1; go_simp); (try (go_bits; try go_simp)); (try (rw [if_pos (by omega)]; try go_simp)); (first | done | (fail) | (with_reducible rfl) | exact rfl)))
    simp only [Act.put, List.setIfInBounds_toArray, List.set_cons_zero, List.set_cons_succ]
    refine WT_yes 7 rfl (by kernel_rfl) (fun _ _ _ _ _ h => h) (by rfl) ?_; apply Exists.intro; refine ⟨fun w1 hb1 => ?_, ?_⟩; (focus ((skip; have hb1 := Lib.hid hb1; go_simp); (try (go_bits; try go_simp)); (try (rw [if_pos (by omega)]; try go_simp)); (first | done | (fail) | (with_reducible rfl) | exact rfl)))
    simp only [Act.put, List.setIfInBounds_toArray, List.set_cons_zero, List.set_cons_succ]
    refine WT_yes 8 rfl (by kernel_rfl) (fun _ _ _ _ _ h => h) (by rfl) ?_; apply Exists.intro; refine ⟨fun w1 hb1 => ?_, ?_⟩; (focus ((skip; have hb1 := Lib.hid hb1; go_simp); (try (go_bits; try go_simp)); (try (rw [if_pos (by omega)]; try go_simp)); (first | done | (fail) | (with_reducible rfl) | exact rfl)))
    simp only [Act.put, List.setIfInBounds_toArray, List.set_cons_zero, List.set_cons_succ]
    refine WT_done (by kernel_rfl) ?_
    replace K0 := Lib.hid (K0.out.to T.out)
    replace HB := Lib.hid (bThen HB.out T.out)
    replace HR := Lib.hid (HR.out.to T.out)
    clear T hK0
    have hK0 := K0.out.1
    go_wp2_with fail
    refine wp_region_tree (by kernel_rfl) (fun w5d hwd => ?_)
    have T := Lib.hid hwd
    clear hwd
    refine WT_yes 0 rfl (by kernel_rfl) (fun _ _ _ _ _ h => h) (by rfl) ?_; apply Exists.intro; refine ⟨fun w1 hb1 => ?_, ?_⟩; (focus ((skip; have hb1 := Lib.hid hb1; go_simp); (try (go_bits; try go_simp)); (try (rw [if_pos (by omega)]; try go_simp)); (first | done | (fail) | (with_reducible rfl) | exact rfl)))
    simp only [Act.put, List.setIfInBounds_toArray, List.set_cons_zero, List.set_cons_succ]
    refine WT_yes 2 rfl (by kernel_rfl) (fun _ _ _ _ _ h => h) (by rfl) ?_; apply Exists.intro; refine ⟨fun w1 hb1 => ?_, ?_⟩; (focus (((obtain ⟨-, k0, -⟩ := (K0.out.to T.out).below hb1 hK0); have hb1 := Lib.hid hb1; go_simp); (try (go_bits; try go_simp)); (try (rw [if_pos (by omega)]; try go_simp)); (first | done | (fail) | (with_reducible rfl) | exact rfl)))
    simp only [Act.put, List.setIfInBounds_toArray, List.set_cons_zero, List.set_cons_succ]
    refine WT_one 1 rfl (by kernel_rfl) ?_
    unfold stepT
    go_wp2_with fail
    refine (HCP.out _ (HR.out.to T.out)).mono ?_
    rintro e w5c ⟨aC, cC, rfl, hcC, hrC, hb, -⟩
    have hbd := Lib.hid (hb.mono T.out.size)
    replace T := Lib.hid (bThen T.out hb)
    have HA := Lib.hid hrC
    clear hb hrC
    go_wp2_with fail
    refine ⟨hbd.out, ?_⟩
    clear hbd
    refine WT_one 3 rfl (by kernel_rfl) ?_
    unfold stepT
    go_wp2_with fail
    refine (HHD.out _ _ _ HA.out).mono ?_
    rintro e w5f ⟨rfl, hb⟩
    have hbd := Lib.hid (hb.mono T.out.size)
    replace T := Lib.hid (bThen T.out hb)
    clear hb HA hcC
    go_wp2_with fail
    refine ⟨hbd.out, ?_⟩
    clear hbd
    refine WT_yes 4 rfl (by kernel_rfl) (fun _ _ _ _ _ h => h) (by rfl) ?_; apply Exists.intro; refine ⟨fun w1 hb1 => ?_, ?_⟩; (focus ((skip; have hb1 := Lib.hid hb1; go_simp); (try (go_bits; try go_simp)); (try (rw [if_pos (by omega)]; try go_simp)); (first | done | (fail) | (with_reducible rfl) | exact rfl)))
    simp only [Act.put, List.setIfInBounds_toArray, List.set_cons_zero, List.set_cons_succ]
    refine WT_yes 5 rfl (by kernel_rfl) (fun _ _ _ _ _ h => h) (by rfl) ?_; apply Exists.intro; refine ⟨fun w1 hb1 => ?_, ?_⟩; (focus ((skip; have hb1 := Lib.hid hb1; go_simp); (try (go_bits; try go_simp)); (try (rw [if_pos (by omega)]; try go_simp)); (first | done | (fail) | (with_reducible rfl) | exact rfl)))
    simp only [Act.put, List.setIfInBounds_toArray, List.set_cons_zero, List.set_cons_succ]
    refine WT_yes 6 rfl (by kernel_rfl) (fun _ _ _ _ _ h => h) (by rfl) ?_; apply Exists.intro; refine ⟨fun w1 hb1 => ?_, ?_⟩; (focus ((skip; have hb1 := Lib.hid hb1; go_simp); (try (go_bits; try go_simp)); (try (rw [if_pos (by omega)]; try go_simp)); (first | done | (fail) | (with_reducible rfl) | exact rfl)))
    simp only [Act.put, List.setIfInBounds_toArray, List.set_cons_zero, List.set_cons_succ]
    refine WT_yes 7 rfl (by kernel_rfl) (fun _ _ _ _ _ h => h) (by rfl) ?_; apply Exists.intro; refine ⟨fun w1 hb1 => ?_, ?_⟩; (focus ((skip; have hb1 := Lib.hid hb1; go_simp); (try (go_bits; try go_simp)); (try (rw [if_pos (by omega)]; try go_simp)); (first | done | (fail) | (with_reducible rfl) | exact rfl)))
    simp only [Act.put, List.setIfInBounds_toArray, List.set_cons_zero, List.set_cons_succ]
    refine WT_yes 8 rfl (by kernel_rfl) (fun _ _ _ _ _ h => h) (by rfl) ?_; apply Exists.intro; refine ⟨fun w1 hb1 => ?_, ?_⟩; (focus ((skip; have hb1 := Lib.hid hb1; go_simp); (try (go_bits; try go_simp)); (try (rw [if_pos (by omega)]; try go_simp)); (first | done | (fail) | (with_reducible rfl) | exact rfl)))
    simp only [Act.put, List.setIfInBounds_toArray, List.set_cons_zero, List.set_cons_succ]
    refine WT_done (by kernel_rfl) ?_
    replace K0 := Lib.hid (K0.out.to T.out)
    replace HB := Lib.hid (bThen HB.out T.out)
    replace HR := Lib.hid (HR.out.to T.out)
    clear T hK0
    have hK0 := K0.out.1
    go_wp2_with fail
    refine wp_region_tree (by kernel_rfl) (fun w6d hwd => ?_)
    have T := Lib.hid hwd
    clear hwd
    refine WT_yes 0 rfl (by kernel_rfl) (fun _ _ _ _ _ h => h) (by rfl) ?_; apply Exists.intro; refine ⟨fun w1 hb1 => ?_, ?_⟩; (focus ((skip; have hb1 := Lib.hid hb1; go_simp); (try (go_bits; try go_simp)); (try (rw [if_pos (by omega)]; try go_simp)); (first | done | (fail) | (with_reducible rfl) | exact rfl)))
    simp only [Act.put, List.setIfInBounds_toArray, List.set_cons_zero, List.set_cons_succ]
    refine WT_yes 2 rfl (by kernel_rfl) (fun _ _ _ _ _ h => h) (by rfl) ?_; apply Exists.intro; refine ⟨fun w1 hb1 => ?_, ?_⟩; (focus (((obtain ⟨-, k0, -⟩ := (K0.out.to T.out).below hb1 hK0); have hb1 := Lib.hid hb1; go_simp); (try (go_bits; try go_simp)); (try (rw [if_pos (by omega)]; try go_simp)); (first | done | (fail) | (with_reducible rfl) | exact rfl)))
    simp only [Act.put, List.setIfInBounds_toArray, List.set_cons_zero, List.set_cons_succ]
    refine WT_one 1 rfl (by kernel_rfl) ?_
    unfold stepT
    go_wp2_with fail
    refine (HCP.out _ (HR.out.to T.out)).mono ?_
    rintro e w6c ⟨aC, cC, rfl, hcC, hrC, hb, -⟩
    have hbd := Lib.hid (hb.mono T.out.size)
    replace T := Lib.hid (bThen T.out hb)
    have HA := Lib.hid hrC
    clear hb hrC
    go_wp2_with fail
    refine ⟨hbd.out, ?_⟩
    clear hbd
    refine WT_one 3 rfl (by kernel_rfl) ?_
    unfold stepT
    go_wp2_with fail
    refine (HCN.out _ _ _ HA.out).mono ?_
    rintro e w6f ⟨rfl, hb⟩
    have hbd := Lib.hid (hb.mono T.out.size)
    replace T := Lib.hid (bThen T.out hb)
    clear hb HA hcC
    go_wp2_with fail
    refine ⟨hbd.out, ?_⟩
    clear hbd
    refine WT_yes 4 rfl (by kernel_rfl) (fun _ _ _ _ _ h => h) (by rfl) ?_; apply Exists.intro; refine ⟨fun w1 hb1 => ?_, ?_⟩; (focus ((skip; have hb1 := Lib.hid hb1; go_simp); (try (go_bits; try go_simp)); (try (rw [if_pos (by omega)]; try go_simp)); (first | done | (fail) | (with_reducible rfl) | exact rfl)))
    simp only [Act.put, List.setIfInBounds_toArray, List.set_cons_zero, List.set_cons_succ]
    refine WT_yes 5 rfl (by kernel_rfl) (fun _ _ _ _ _ h => h) (by rfl) ?_; apply Exists.intro; refine ⟨fun w1 hb1 => ?_, ?_⟩; (focus ((skip; have hb1 := Lib.hid hb1; go_simp); (try (go_bits; try go_simp)); (try (rw [if_pos (by omega)]; try go_simp)); (first | done | (fail) | (with_reducible rfl) | exact rfl)))
    simp only [Act.put, List.setIfInBounds_toArray, List.set_cons_zero, List.set_cons_succ]
    refine WT_yes 6 rfl (by kernel_rfl) (fun _ _ _ _ _ h => h) (by rfl) ?_; apply Exists.intro; refine ⟨fun w1 hb1 => ?_, ?_⟩; (focus ((skip; have hb1 := Lib.hid hb1; go_simp); (try (go_bits; try go_simp)); (try (rw [if_pos (by omega)]; try go_simp)); (first | done | (fail) | (with_reducible rfl) | exact rfl)))
    simp only [Act.put, List.setIfInBounds_toArray, List.set_cons_zero, List.set_cons_succ]
    refine WT_yes 7 rfl (by kernel_rfl) (fun _ _ _ _ _ h => h) (by rfl) ?_; apply Exists.intro; refine ⟨fun w1 hb1 => ?_, ?_⟩; (focus ((skip; have hb1 := Lib.hid hb1; go_simp); (try (go_bits; try go_simp)); (try (rw [if_pos (by omega)]; try go_simp)); (first | done | (fail) | (with_reducible rfl) | exact rfl)))
    simp only [Act.put, List.setIfInBounds_toArray, List.set_cons_zero, List.set_cons_succ]
    refine WT_yes 8 rfl (by kernel_rfl) (fun _ _ _ _ _ h => h) (by rfl) ?_; apply Exists.intro; refine ⟨fun w1 hb1 => ?_, ?_⟩; (focus ((skip; have hb1 := Lib.hid hb1; go_simp); (try (go_bits; try go_simp)); (try (rw [if_pos (by omega)]; try go_simp)); (first | done | (fail) | (with_reducible rfl) | exact rfl)))
    simp only [Act.put, List.setIfInBounds_toArray, List.set_cons_zero, List.set_cons_succ]
    refine WT_done (by kernel_rfl) ?_
    replace K0 := Lib.hid (K0.out.to T.out)
    replace HB := Lib.hid (bThen HB.out T.out)
    replace HR := Lib.hid (HR.out.to T.out)
    clear T hK0
    go_wp2_with fail
    refine (HRM.out _ HR.out).mono ?_
    rintro e w7 ⟨rfl, hb⟩
    replace K0 := Lib.hid (K0.out.to hb)
    replace HR := Lib.hid (HR.out.to hb)
    replace HB := Lib.hid (bThen HB.out hb)
    clear hb
    rcases hsp with ⟨rfl, rfl⟩ | ⟨hn, rfl⟩
    · obtain ⟨-, k0, -⟩ := K0.out
      go_wp2_with fail
      refine (HCK.out _ HR.out).mono ?_
      rintro e w8 ⟨rfl, hb⟩
      replace HB := Lib.hid (bThen HB.out hb)
      clear hb k0
      go_wp2_with fail
      go_ret
      exact ⟨rfl, HB.out⟩
    · have hz : (c2 == 0) = false := by simpa using hn
      clear hn
      go_wp2_with fail
      go_ret
      exact ⟨rfl, HB.out⟩

end Go.Proofs.Ytjieojkfpoiabaa
