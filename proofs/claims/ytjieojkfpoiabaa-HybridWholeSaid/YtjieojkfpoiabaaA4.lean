/-
  The reference of the forces' error; quotients.
-/
import Derived.Test.YtjieojkfpoiabaaA3
namespace Go.Proofs.Ytjieojkfpoiabaa
open Go.RowKit

/-- Is a force out? -/
def outB (x : HT) (zs : List Int) (k : Nat) : Bool := !decide (x.lo ≤ gi zs k) || !decide (gi zs k ≤ x.hi)
theorem forceE_out {x : HT} {zs : List Int} {k : Nat} (h : outB x zs k = true) : forceE x zs k = 2 := by
  unfold outB at h; unfold forceE
  rw [← Bool.not_and] at h
  cases hb : (decide (x.lo ≤ gi zs k) && decide (gi zs k ≤ x.hi))
  · rfl
  · rw [hb] at h; cases h
theorem forceE_in {x : HT} {zs : List Int} {k : Nat} (h : outB x zs k = false) : forceE x zs k = 0 := by
  unfold outB at h; unfold forceE
  rw [← Bool.not_and] at h
  cases hb : (decide (x.lo ≤ gi zs k) && decide (gi zs k ≤ x.hi))
  · rw [hb] at h; cases h
  · rfl
theorem forcesE_many {x : HT} {zs : List Int} (h : 60 < (zs.length : Int)) : forcesE x zs = 8 := by
  have : decide ((zs.length : Int) ≤ 60) = false := by simp; omega
  simp only [forcesE, firstE, unl, this]; rfl
theorem forcesE_few {x : HT} {zs : List Int} (h : (zs.length : Int) ≤ 60) : forcesE x zs = (eachR (forceE x zs) 0 zs.length).2 := by
  have : decide ((zs.length : Int) ≤ 60) = true := by simpa using h
  simp only [forcesE, firstE, unl, this, if_true]
  by_cases h0 : (eachR (forceE x zs) 0 zs.length).2 = 0 <;> simp [h0]

set_option maxHeartbeats 400000 in
set_option maxRecDepth 100000 in
theorem ForcesErr_any (x : HT) (zs : List Int) (a : Option Addr) (cap : Nat) (w : World) (hlen : zs.length ≤ maxLen) (hr : Reads w a zs.length (ints zs)) :
    Calls Try.prog 15 #[.agg x.cells, .slice a zs.length cap] w fun e w' => e = .returned (.int .i64 (forcesE x zs)) ∧ Below w.heap.size w w' := by
  unfold maxLen at hlen
  have hR := Lib.hid hr
  clear hr
  by_cases hm : 60 < (zs.length : Int)
  · go_enter Try.func15, Try.ntmps15
    go_wp2
    go_ret
    exact ⟨ret_int (forcesE_many hm).symm, (Below.refl _ _).alloc (Nat.le_refl _) _⟩
  · have hm' : (zs.length : Int) ≤ 60 := by omega
    clear hm
    go_enter Try.func15, Try.ntmps15
    go_wp2_with fail
    go_loopw [5] (fun i wr => ∃ k : Nat, k ≤ zs.length ∧ i = .int .i64 k ∧ Hid (eachR (forceE x zs) 0 zs.length = eachR (forceE x zs) k (zs.length - k)) ∧ Hid (Below (w.heap.size + 1) (w.alloc (.cells x.cells 25)) wr)) (fun i _ => zs.length - (intOf i).toNat)
    case atStart => exact ⟨0, Nat.zero_le _, rfl, Lib.hid rfl, Lib.hid (Below.refl _ _)⟩
    case round =>
      obtain ⟨k, hk, rfl, hr, hI⟩ := hrel
      by_cases hlt : k < zs.length
      · have hcx := bcell hI.out
        obtain ⟨hcx, hfx⟩ := hcx
        clear hfx
        obtain ⟨b, off, rfl, hb, hc⟩ := ((hR.out.alloc (.cells x.cells 25)).below hI.out (by simp)).at hlt
        have h1 : wr.cell? ⟨b, off + k, none⟩ = some (.int .i64 (gi zs k)) := hc k hlt
        clear hc
        have h2 : wr.cell? ⟨w.heap.size, 7, none⟩ = some (.int .i64 x.lo) := by rw [hcx _ _ (by omega)]; simp [World.cell?_alloc_new]
        have h3 : wr.cell? ⟨w.heap.size, 8, none⟩ = some (.int .i64 x.hi) := by rw [hcx _ _ (by omega)]; simp [World.cell?_alloc_new]
        have hsz : w.heap.size < wr.heap.size := by have := hI.out.size; simp at this; omega
        clear hcx
        go_wp2_with fail
        go_cut [26] (fun s26 w' => s26 = .bool (outB x zs k) ∧ Hid (Below wr.heap.size wr w'))
        case first =>
          refine wp_region_quiet_all (fun w' => Below (wr.heap.size) (wr) w') (by kernel_rfl) (by kernel_rfl) (Below.refl _ _).drew ?_
          repeat (first | (refine wpQuiet_no (by rfl) ?_; (simp only [Act.put, List.setIfInBounds_toArray, List.set_cons_zero, List.set_cons_succ])) | (refine wpQuiet_yes (by rfl) ?_; apply Exists.intro; refine ⟨fun w1 hb1 => ?_, ?_⟩; (focus ((have hcf := bcell hb1; obtain ⟨hc1, hf1⟩ := hcf; have hb1 := Lib.hid hb1; go_simp); (try (go_bits; try go_simp)); (first | done | (((go_at_call 33); refine (bWithin_any _ _ _ _).mono ?_; rintro e w' ⟨rfl, rfl⟩; exact ⟨rfl, hb1.out⟩)) | (with_reducible rfl) | exact rfl))); (simp only [Act.put, List.setIfInBounds_toArray, List.set_cons_zero, List.set_cons_succ])))
          refine wpQuiet_nil ?_
          intro w1 hb1
          have hcf := bcell hb1
          obtain ⟨hc1, hf1⟩ := hcf
          have hb1 := Lib.hid hb1
          go_wp2_with fail
          go_meet
          case rel => exact ⟨rfl, hb1⟩
        case rest =>
          obtain ⟨rfl, hb2⟩ := hcut
          cases ho : outB x zs k
          all_goals have HO := Lib.hid ho; clear ho
          · go_wp2_with fail
            go_roundw
            case rel => exact ⟨k + 1, by omega, by go_num, hr.out.trans (eachR_step hlt (forceE_in HO.out)), Lib.hid (hI.out.trans (hb2.out.mono (by omega)))⟩
            case measure => simp [intOf]; omega
          · go_wp2_with fail
            go_ret
            exact ⟨ret_int (by rw [forcesE_few hm', hr.out, eachR_stop hlt (by rw [forceE_out HO.out]; decide), forceE_out HO.out]), (((Below.refl _ _).alloc (Nat.le_refl _) _).trans (hI.out.mono (by omega))).trans (hb2.out.mono (by omega))⟩
      · have : k = zs.length := by omega
        subst this
        go_wp2
        go_ret
        exact ⟨ret_int (by rw [forcesE_few hm', hr.out, Nat.sub_self]; rfl), (((Below.refl _ _).alloc (Nat.le_refl _) _).trans (hI.out.mono (by omega)))⟩

end Go.Proofs.Ytjieojkfpoiabaa
