/-
  Contracts: a state's list; the command, and where the actuators are.
-/
import Derived.Test.YtjieojkfpoiabaaJ3
import Derived.Test.YtjieojkfpoiabaaC1
import Derived.WalkSpells
namespace Go.Proofs.Ytjieojkfpoiabaa
open Go.RowKit

theorem stateOf_any (x : HT) (zs : List Int) (a : Option Addr) (cap : Nat) (w : World) (hx : x.ok) (hs : RSt x zs) (hr : Reads w a zs.length (ints zs)) :
    Calls Try.prog 94 #[.slice a zs.length cap] w fun e w' => e = .returned (.agg (l4 zs)) ∧ Below w.heap.size w w' := by
  have hl := hs.len
  have d1 := hx.dl1
  have d2 := hx.dl2
  clear hs
  match zs, hl, hr with
  | [], hl, _ => simp at hl; omega
  | [_], hl, _ => simp at hl; omega
  | [z0, z1], _, hr => exact stateOf_2 z0 z1 a cap w hr
  | [z0, z1, z2], _, hr => exact stateOf_3 z0 z1 z2 a cap w hr
  | [z0, z1, z2, z3], _, hr => exact stateOf_4 z0 z1 z2 z3 a cap w hr
  | _ :: _ :: _ :: _ :: _ :: _, hl, _ => simp at hl; omega

theorem cmdV_l4 (x : HT) (zs : List Int) (g : Nat) (hg : g < 3) : cmdV x [gi zs 0, gi zs 1, gi zs 2, gi zs 3] g = cmdV x zs g := by
  rcases (by omega : g = 0 ∨ g = 1 ∨ g = 2) with rfl | rfl | rfl <;> rfl
theorem RSt.st {x : HT} {zs : List Int} (h : RSt x zs) : St (gi zs 0) (gi zs 1) (gi zs 2) (gi zs 3) :=
  ⟨(h.bd 0).1, (h.bd 0).2, (h.bd 1).1, (h.bd 1).2, (h.bd 2).1, (h.bd 2).2, (h.bd 3).1, (h.bd 3).2⟩

theorem command1_any (x : HT) (zs : List Int) (w : World) (hx : x.ok) (hs : RSt x zs) :
    Calls Try.prog 91 #[.agg x.cells, .agg (l4 zs)] w fun e w' => e = .returned (.int .i64 (cmdV x zs 0)) ∧ Below w.heap.size w w' := by
  have HC := Lib.hid (fun W => hcommand0 x (gi zs 0) (gi zs 1) (gi zs 2) (gi zs 3) W hx hs.st)
  rw [cmdV_l4 x zs 0 (by omega)] at HC
  go_enter Try.func91, Try.ntmps91
  go_wp2_with fail
  refine (HC.out _).mono ?_
  rintro e w1 ⟨rfl, hb⟩
  have HB := Lib.hid (bThen (bAlloc (bAlloc (bSelf w) (.cells x.cells 121)) (.cells (l4 zs) 124)) hb)
  clear hb
  go_wp2_with fail
  go_ret
  exact ⟨rfl, HB.out⟩

theorem actuators4_any (x : HT) (zs : List Int) (w : World) (hx : x.ok) (hs : RSt x zs) :
    Calls Try.prog 78 #[.agg x.cells, .agg (l4 zs)] w fun e w' => e = .returned (.int .i64 (cmdV x zs x.dl.toNat)) ∧ Below w.heap.size w w' := by
  have h := actuators_any x (gi zs 0) (gi zs 1) (gi zs 2) (gi zs 3) w hx hs.st
  rw [cmdV_l4 x zs _ (by have := hx.dl1; have := hx.dl2; omega)] at h
  exact h

/-- The error of a test with a state. -/
def checkE (x : HT) (zs : List Int) : Int := if testE x = 0 then stateE x zs else testE x
theorem CheckState_any (x : HT) (zs : List Int) (a : Option Addr) (cap : Nat) (w : World) (hlen : zs.length ≤ maxLen) (hr : Reads w a zs.length (ints zs)) :
    Calls Try.prog 36 #[.agg x.cells, .slice a zs.length cap] w fun e w' => e = .returned (.int .i64 (checkE x zs)) ∧ Below w.heap.size w w' := by
  by_cases hE : testE x = 0
  · rw [checkE, if_pos hE]; exact CheckState_ok x zs a cap w hE hlen hr
  · rw [checkE, if_neg hE]; exact CheckState_bad x zs a cap w hE
theorem checkE_zero {x : HT} {zs : List Int} (h : checkE x zs = 0) : x.ok ∧ RSt x zs := by
  unfold checkE at h
  by_cases hE : testE x = 0
  · rw [if_pos hE] at h; exact ⟨testE_zero hE, stateE_zero (testE_zero hE) h⟩
  · rw [if_neg hE] at h; exact absurd h hE

set_option maxHeartbeats 400000 in
set_option maxRecDepth 100000 in
theorem asked_command (x : HT) (zs : List Int) (a : Option Addr) (cap : Nat) (w : World) (hlen : zs.length ≤ maxLen) (hr : Reads w a zs.length (ints zs)) :
    Calls Try.prog 90 #[.agg x.cells, .slice a zs.length cap, .func (.func 91) #[] #[]] w fun e w' => e = .returned (.tuple #[.int .i64 (if checkE x zs = 0 then cmdV x zs 0 else 0), .int .i64 (checkE x zs)]) ∧ Below w.heap.size w w' := by
  have HCS := Lib.hid (fun W h => CheckState_any x zs a cap W hlen h)
  have HR0 := Lib.hid hr
  clear hr
  by_cases hE : checkE x zs = 0
  · obtain ⟨hx, hs⟩ := checkE_zero hE
    rw [hE] at HCS ⊢
    rw [if_pos rfl]
    have HX := Lib.hid hx
    have HS := Lib.hid hs
    clear hE hx hs
    go_enter Try.func90, Try.ntmps90
    go_wp2_with fail
    refine (HCS.out _ (HR0.out.alloc _)).mono ?_
    rintro e w1 ⟨rfl, hb⟩
    have K0 := Lib.hid ((Blk.new w x.cells 25).to hb)
    have HR := Lib.hid ((HR0.out.alloc (.cells x.cells 25)).to hb)
    have HB := Lib.hid (bThen (bAlloc (bSelf w) (.cells x.cells 25)) hb)
    clear hb
    go_wp2_with fail
    refine wp_region_quiet_all (fun w' => Below (World.heap w1).size (w1) w') (by kernel_rfl) (by kernel_rfl) (Below.refl _ _).drew ?_
    repeat (first | (refine wpQuiet_no (by rfl) ?_; (simp only [Act.put, List.setIfInBounds_toArray, List.set_cons_zero, List.set_cons_succ])) | (refine wpQuiet_yes (by rfl) ?_; apply Exists.intro; refine ⟨fun w1 hb1 => ?_, ?_⟩; (focus (((obtain ⟨-, k0, -⟩ := K0.out.to hb1); have hb1 := Lib.hid hb1; go_simp); (try (go_bits; try go_simp)); (try (rw [if_pos (by omega)]; try go_simp)); (first | done | ((first | (go_at_call 94; refine (stateOf_any x zs a cap _ HX.out HS.out (HR.out.to hb1.out)).mono ?_; rintro e w' ⟨rfl, hb⟩; exact ⟨rfl, bThen hb1.out hb⟩) | (go_at_call 91; refine (command1_any x zs _ HX.out HS.out).mono ?_; rintro e w' ⟨rfl, hb⟩; exact ⟨rfl, bThen hb1.out hb⟩))) | (with_reducible rfl) | exact rfl))); (simp only [Act.put, List.setIfInBounds_toArray, List.set_cons_zero, List.set_cons_succ])))
    refine wpQuiet_nil ?_
    intro w1 hb1
    have hb1 := Lib.hid hb1
    go_wp2_with fail
    go_ret2
    exact ⟨rfl, bThen HB.out hb1.out⟩
  · obtain ⟨c, hcE⟩ : ∃ c, checkE x zs = c := ⟨_, rfl⟩
    rw [hcE] at HCS hE ⊢
    rw [if_neg hE]
    clear hcE
    have hc1 : (c != 0) = true := by simpa using hE
    go_enter Try.func90, Try.ntmps90
    go_wp2_with fail
    refine (HCS.out _ (HR0.out.alloc _)).mono ?_
    rintro e w1 ⟨rfl, hb⟩
    have HB := Lib.hid (bThen (bAlloc (bSelf w) (.cells x.cells 25)) hb)
    clear hb
    go_wp2_with fail
    go_ret2
    exact ⟨rfl, HB.out⟩

set_option maxHeartbeats 400000 in
set_option maxRecDepth 100000 in
theorem asked_actuators (x : HT) (zs : List Int) (a : Option Addr) (cap : Nat) (w : World) (hlen : zs.length ≤ maxLen) (hr : Reads w a zs.length (ints zs)) :
    Calls Try.prog 90 #[.agg x.cells, .slice a zs.length cap, .func (.func 78) #[] #[]] w fun e w' => e = .returned (.tuple #[.int .i64 (if checkE x zs = 0 then cmdV x zs x.dl.toNat else 0), .int .i64 (checkE x zs)]) ∧ Below w.heap.size w w' := by
  have HCS := Lib.hid (fun W h => CheckState_any x zs a cap W hlen h)
  have HR0 := Lib.hid hr
  clear hr
  by_cases hE : checkE x zs = 0
  · obtain ⟨hx, hs⟩ := checkE_zero hE
    rw [hE] at HCS ⊢
    rw [if_pos rfl]
    have HX := Lib.hid hx
    have HS := Lib.hid hs
    clear hE hx hs
    go_enter Try.func90, Try.ntmps90
    go_wp2_with fail
    refine (HCS.out _ (HR0.out.alloc _)).mono ?_
    rintro e w1 ⟨rfl, hb⟩
    have K0 := Lib.hid ((Blk.new w x.cells 25).to hb)
    have HR := Lib.hid ((HR0.out.alloc (.cells x.cells 25)).to hb)
    have HB := Lib.hid (bThen (bAlloc (bSelf w) (.cells x.cells 25)) hb)
    clear hb
    go_wp2_with fail
    refine wp_region_quiet_all (fun w' => Below (World.heap w1).size (w1) w') (by kernel_rfl) (by kernel_rfl) (Below.refl _ _).drew ?_
    repeat (first | (refine wpQuiet_no (by rfl) ?_; (simp only [Act.put, List.setIfInBounds_toArray, List.set_cons_zero, List.set_cons_succ])) | (refine wpQuiet_yes (by rfl) ?_; apply Exists.intro; refine ⟨fun w1 hb1 => ?_, ?_⟩; (focus (((obtain ⟨-, k0, -⟩ := K0.out.to hb1); have hb1 := Lib.hid hb1; go_simp); (try (go_bits; try go_simp)); (try (rw [if_pos (by omega)]; try go_simp)); (first | done | ((first | (go_at_call 94; refine (stateOf_any x zs a cap _ HX.out HS.out (HR.out.to hb1.out)).mono ?_; rintro e w' ⟨rfl, hb⟩; exact ⟨rfl, bThen hb1.out hb⟩) | (go_at_call 78; refine (actuators4_any x zs _ HX.out HS.out).mono ?_; rintro e w' ⟨rfl, hb⟩; exact ⟨rfl, bThen hb1.out hb⟩))) | (with_reducible rfl) | exact rfl))); (simp only [Act.put, List.setIfInBounds_toArray, List.set_cons_zero, List.set_cons_succ])))
    refine wpQuiet_nil ?_
    intro w1 hb1
    have hb1 := Lib.hid hb1
    go_wp2_with fail
    go_ret2
    exact ⟨rfl, bThen HB.out hb1.out⟩
  · obtain ⟨c, hcE⟩ : ∃ c, checkE x zs = c := ⟨_, rfl⟩
    rw [hcE] at HCS hE ⊢
    rw [if_neg hE]
    clear hcE
    have hc1 : (c != 0) = true := by simpa using hE
    go_enter Try.func90, Try.ntmps90
    go_wp2_with fail
    refine (HCS.out _ (HR0.out.alloc _)).mono ?_
    rintro e w1 ⟨rfl, hb⟩
    have HB := Lib.hid (bThen (bAlloc (bSelf w) (.cells x.cells 25)) hb)
    clear hb
    go_wp2_with fail
    go_ret2
    exact ⟨rfl, HB.out⟩

theorem CommandOf_any (x : HT) (zs : List Int) (a : Option Addr) (cap : Nat) (w : World) (hlen : zs.length ≤ maxLen) (hr : Reads w a zs.length (ints zs)) :
    Calls Try.prog 37 #[.agg x.cells, .slice a zs.length cap] w fun e w' => e = .returned (.tuple #[.int .i64 (if checkE x zs = 0 then cmdV x zs 0 else 0), .int .i64 (checkE x zs)]) ∧ Below w.heap.size w w' := by
  have HA := Lib.hid (fun W h => asked_command x zs a cap W hlen h)
  have HR0 := Lib.hid hr
  clear hr
  obtain ⟨c, hcE⟩ : ∃ c, checkE x zs = c := ⟨_, rfl⟩
  obtain ⟨v, hv⟩ : ∃ v, (if checkE x zs = 0 then cmdV x zs 0 else 0) = v := ⟨_, rfl⟩
  rw [hv, hcE] at HA ⊢
  clear hcE hv
  go_enter Try.func37, Try.ntmps37
  go_wp2_with fail
  refine (HA.out _ (HR0.out.alloc _)).mono ?_
  rintro e w1 ⟨rfl, hb⟩
  have HB := Lib.hid (bThen (bAlloc (bSelf w) (.cells x.cells 25)) hb)
  clear hb
  go_wp2_with fail
  go_ret2
  exact ⟨rfl, HB.out⟩

theorem ActuatorsAt_any (x : HT) (zs : List Int) (a : Option Addr) (cap : Nat) (w : World) (hlen : zs.length ≤ maxLen) (hr : Reads w a zs.length (ints zs)) :
    Calls Try.prog 38 #[.agg x.cells, .slice a zs.length cap] w fun e w' => e = .returned (.tuple #[.int .i64 (if checkE x zs = 0 then cmdV x zs x.dl.toNat else 0), .int .i64 (checkE x zs)]) ∧ Below w.heap.size w w' := by
  have HA := Lib.hid (fun W h => asked_actuators x zs a cap W hlen h)
  have HR0 := Lib.hid hr
  clear hr
  obtain ⟨c, hcE⟩ : ∃ c, checkE x zs = c := ⟨_, rfl⟩
  obtain ⟨v, hv⟩ : ∃ v, (if checkE x zs = 0 then cmdV x zs x.dl.toNat else 0) = v := ⟨_, rfl⟩
  rw [hv, hcE] at HA ⊢
  clear hcE hv
  go_enter Try.func38, Try.ntmps38
  go_wp2_with fail
  refine (HA.out _ (HR0.out.alloc _)).mono ?_
  rintro e w1 ⟨rfl, hb⟩
  have HB := Lib.hid (bThen (bAlloc (bSelf w) (.cells x.cells 25)) hb)
  clear hb
  go_wp2_with fail
  go_ret2
  exact ⟨rfl, HB.out⟩

set_option maxHeartbeats 400000 in
set_option maxRecDepth 100000 in
theorem Clone_any (zs : List Int) (ad : Addr) (cap : Nat) (w : World) (hfew : zs.length ≤ 100000) (hr : Reads w (some ad) zs.length (ints zs)) :
    Calls Try.prog 127 #[.slice (some ad) zs.length cap] w fun e w' => ∃ a' cap', e = .returned (.slice a' zs.length cap') ∧ zs.length ≤ cap' ∧ Reads w' a' zs.length (ints zs) ∧ Below w.heap.size w w' ∧ ∀ p, a' = some p → w.heap.size ≤ p.block := by
  have HR := Lib.hid hr
  clear hr
  have HN := Lib.hid (Reads.news' (HR.out.alloc (.cells #[] 3)))
  have HF := Lib.hid hfew
  have hq : (binOp .eql 26 (.slice (some ad) zs.length cap) (.slice none 0 0)).run Try.prog w = .ok (.bool false) w := Lib.run_eql_slice_nil w _ _ (some ad) zs.length cap 0 0 Try.underlying26
  go_enter Try.func127, Try.ntmps127
  go_wp2_with (at_builtin; refine wpList_app w.heap.size rtInt rfl (.tmp 5) (.tmp 6) rfl (.slice (some ⟨w.heap.size, 0, none⟩) 0 0) 0 [] rfl (World.ownsRow_lit w #[] 0 (Nat.le_refl _) (by decide) rfl) ad zs.length cap (zs.map fun z => Value.int .i64 z) rfl (by simp) HN.out (ones _) (by unfold maxLen; omega) (by omega) (by simp) ?_; intro v' w2 hown' hgrow _ hwhere; have HO := Lib.hid hown'; have HBB : Hid (Below w.heap.size w w2) := Lib.hid ((bAlloc (bSelf w) _).grown hgrow (by simp) (fun k e => by cases e; exact Nat.le_refl _)); clear hown' hgrow hwhere)
  go_ret
  have hrow := HO.out
  rw [Nat.zero_add, List.nil_append] at hrow
  obtain ⟨a', cap', rfl, hcp, hrd, hfr⟩ := Reads.of_owns' hrow
  exact ⟨a', cap', rfl, hcp, hrd, HBB.out, hfr⟩

end Go.Proofs.Ytjieojkfpoiabaa
