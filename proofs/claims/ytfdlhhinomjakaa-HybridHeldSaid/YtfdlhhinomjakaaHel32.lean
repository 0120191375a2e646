/-
  Texts of this claim, in their build order: J5.
-/
import Derived.Test.YtfdlhhinomjakaaHel29
import Derived.Test.YtfdlhhinomjakaaHel24
import Derived.Test.YtfdlhhinomjakaaHel0

namespace Go.Proofs.Ytfdlhhinomjakaa
section
set_option maxRecDepth 100000
set_option maxHeartbeats 1600000
open Go.RowKit

/-- So many of a state's numbers, as a list. -/
theorem list_at (x : HT) (z : List Int) (m : Nat) (w : World) (hx : x.ok) (hz : z.length = 4) (hm : x.dl + 2 = (m : Int)) (hm2 : m = 2 ∨ m = 3 ∨ m = 4) :
    Calls Try.prog 30 #[.agg x.cells, .agg (l4 z)] w fun e w' => ∃ a' cap', e = .returned (.slice a' (z.take m).length cap') ∧ (z.take m).length ≤ cap' ∧ Reads w' a' (z.take m).length (ints (z.take m)) ∧ Below w.heap.size w w' := by
  have hl : (z.take m).length = m := by rw [List.length_take]; omega
  have HX := zH hx
  clear hx
  rw [hl]
  go_enter Try.func30, Try.ntmps30
  go_wp2_with fail
  refine (count_at x m _ HX.out hm).mono ?_
  rintro e w1 ⟨rfl, hb⟩
  have K1 := zH ((Blk.newAt (B := w.heap.size + 1) (w.alloc (.cells x.cells 68)) (l4 z) 72 (by simp)).to hb)
  have HB := zH (bThen (bAlloc (bAlloc (bSelf w) _) _) hb)
  clear hb
  have HR : Hid (Reads w1 (some ⟨w.heap.size + 1, 0, none⟩) (z.take m).length (ints (z.take m))) := zH (.inr ⟨_, _, rfl, K1.out.1, fun i hi => by
    rw [hl] at hi
    rw [Nat.zero_add, K1.out.2.1 i]
    have e : ints (z.take m) i = .int .i64 (gi z i) := by
      unfold ints
      rw [gi_lt (by rw [hl]; omega), gi_lt (by omega), List.getElem_take]
    rw [e]
    match i, (show i < 4 by omega) with
    | 0, _ => rfl
    | 1, _ => rfl
    | 2, _ => rfl
    | 3, _ => rfl⟩)
  rw [hl] at HR
  have HCL := zH (fun W h => Clone_any (z.take m) ⟨w.heap.size + 1, 0, none⟩ 4 W (by rw [hl]; omega) h)
  rw [hl] at HCL
  clear hl hz
  rcases hm2 with rfl | rfl | rfl
  all_goals
    go_wp2_with fail
    refine (HCL.out _ HR.out).mono ?_
    rintro e w2 ⟨a', cap', rfl, hc', hr', hb, -⟩
    have HB2 := zH (bThen HB.out hb)
    have HR2 := zH hr'
    clear hb hr'
    go_wp2_with fail
    go_ret
    exact ⟨a', cap', rfl, hc', HR2.out, HB2.out⟩

/-- The next state of the program, as a list of four. -/
theorem next4_any (x : HT) (zs : List Int) (f : Int) (w : World) (hx : x.ok) (hs : RSt x zs) (hf1 : -1000 ≤ f) (hf2 : f ≤ 1000) :
    Calls Try.prog 42 #[.agg x.cells, .agg (l4 zs), .int .i64 f] w fun e w' => e = .returned (.tuple #[.agg (l4 (nextL x zs (nextV x zs f))), .bool (inB x (nextV x zs f))]) ∧ Below w.heap.size w w' := by
  have h := next_in x (gi zs 0) (gi zs 1) (gi zs 2) (gi zs 3) f w hx hs.st hf1 hf2
  have e1 : nextV x [gi zs 0, gi zs 1, gi zs 2, gi zs 3] f = nextV x zs f := by
    unfold nextV pushV
    rw [cmdV_l4 x zs _ (by have := hx.dl1; have := hx.dl2; omega)]
    rfl
  rw [e1] at h
  exact h

theorem nextL_take (x : HT) (zs : List Int) (n : Int) (hx : x.ok) (hs : RSt x zs) : (nextL x zs n).take (x.dl + 2).toNat = nextR zs n := by
  have hl := hs.len
  have d1 := hx.dl1
  have d2 := hx.dl2
  clear hs
  match zs, hl with
  | [], hl => simp at hl; omega
  | [_], hl => simp at hl; omega
  | [z0, z1], hl =>
    have : x.dl = 0 := by simp at hl; omega
    rw [this]; rfl
  | [z0, z1, z2], hl =>
    have : x.dl = 1 := by simp at hl; omega
    rw [this]; simp [nextL, nextR, kp, gi, this]
  | [z0, z1, z2, z3], hl =>
    have : x.dl = 2 := by simp at hl; omega
    rw [this]; simp [nextL, nextR, kp, gi, this]
  | _ :: _ :: _ :: _ :: _ :: _, hl => simp at hl; omega

/-- What comes out of NextOf: a list, and an error. -/
def NofPost (Z : List Int) (E : Int) (w : World) (e : Ending) (w' : World) : Prop :=
  ∃ a' cap', e = .returned (.tuple #[.slice a' Z.length cap', .int .i64 E]) ∧ Z.length ≤ cap' ∧ Reads w' a' Z.length (ints Z) ∧ Below w.heap.size w w'

/-- The error of the next state, and the state. -/
def nofE (x : HT) (zs : List Int) (f : Int) : Int := firstE [checkE x zs, unl (inF x f) 6]

theorem NextOf_bad (x : HT) (zs : List Int) (a : Option Addr) (cap : Nat) (f : Int) (w : World) (hlen : zs.length ≤ maxLen) (hr : Reads w a zs.length (ints zs)) (hE : nofE x zs f ≠ 0) :
    Calls Try.prog 12 #[.agg x.cells, .slice a zs.length cap, .int .i64 f] w fun e w' => e = .returned (.tuple #[.slice none 0 0, .int .i64 (nofE x zs f)]) ∧ Below w.heap.size w w' := by
  have HCS := zH (fun W h => CheckState_any x zs a cap W hlen h)
  have HR0 := zH hr
  clear hr
  have hc1 : (nofE x zs f != 0) = true := by simpa using hE
  have HE : Hid (firstE [checkE x zs, unl (inF x f) 6] = nofE x zs f) := zH rfl
  obtain ⟨c, hcE⟩ : ∃ c, checkE x zs = c := ⟨_, rfl⟩
  obtain ⟨d, hdE⟩ : ∃ d, nofE x zs f = d := ⟨_, rfl⟩
  rw [hcE, hdE] at HE
  rw [hcE] at HCS
  rw [hdE] at hc1 hE ⊢
  clear hcE hdE hE
  unfold inF at HE
  go_enter Try.func12, Try.ntmps12
  go_upto_region 1 with (fail)
  obtain ⟨W, hW⟩ : ∃ W, w.alloc (.cells x.cells 25) = W := ⟨_, rfl⟩
  rw [hW]
  have K0 : Hid (Blk W w.heap.size x.cells) := by subst hW; exact zH (Blk.new _ _ _)
  have HB : Hid (Below w.heap.size w W) := by subst hW; exact zH (bAlloc (bSelf w) _)
  have HR : Hid (Reads W a zs.length (ints zs)) := by subst hW; exact zH (HR0.out.alloc _)
  clear hW
  refine wp_region_quiet_tail 12 (fun w' => Below (World.heap W).size (W) w') (by kernel_rfl) (by kernel_rfl) (Below.refl _ _).drew ?_
  simp only [List.take_succ_cons, List.take_zero, List.drop_succ_cons, List.drop_zero]
  repeat (first | (refine wpQuiet_no (by rfl) ?_; (simp only [Act.put, zzT, zzO, zzS])) | (refine wpQuiet_yes (by rfl) ?_; apply Exists.intro; refine ⟨fun w1 hb1 => ?_, ?_⟩; (focus (((obtain ⟨-, k0, -⟩ := K0.out.to hb1); have hb1 := zH hb1; go_simp); (try (go_bits; try go_simp)); (try (rw [if_pos (by omega)]; try go_simp)); (first | done | ((first | (go_at_call 43; refine (HCS.out _ (HR.out.to hb1.out)).mono ?_; rintro e w' ⟨rfl, hb⟩; exact ⟨rfl, bThen hb1.out hb⟩) | (go_at_call 44; refine (within_any _ _ _ _).mono ?_; rintro e w' ⟨rfl, rfl⟩; exact ⟨rfl, hb1.out⟩) | (go_at_call 33; refine (unless_any _ _ _).mono ?_; rintro e w' ⟨rfl, rfl⟩; exact ⟨rfl, hb1.out⟩))) | (with_reducible rfl) | exact rfl))); (simp only [Act.put, zzT, zzO, zzS])))
  refine wpQuiet_nil ?_
  intro w1 hb1
  have hb1 := zH hb1
  go_wp2_with fail
  refine (first2_new _ _ _ _ (by simp)).mono ?_
  rintro e w' ⟨rfl, rfl⟩
  rw [HE.out]
  go_wp2_with fail
  go_ret2
  exact ⟨rfl, bAlloc (bThen HB.out hb1.out) _⟩

theorem NextOf_ok (x : HT) (zs : List Int) (a : Option Addr) (cap : Nat) (f : Int) (w : World) (hlen : zs.length ≤ maxLen) (hr : Reads w a zs.length (ints zs)) (hE : checkE x zs = 0) (hF : inF x f = true) :
    Calls Try.prog 12 #[.agg x.cells, .slice a zs.length cap, .int .i64 f] w (fun e w1 => NofPost (nextZ x zs f) (nextE x zs f) w e w1) := by
  obtain ⟨hx, hs⟩ := checkE_zero hE
  have hfl : -1000 ≤ f ∧ f ≤ 1000 := by unfold inF at hF; simp at hF; have := hx.lo1; have := hx.hi2; omega
  have hlz := hs.len
  have hxd := hx.dl012
  have HCS := zH (fun W h => CheckState_any x zs a cap W hlen h)
  have HSO := zH (fun W h => stateOf_any x zs a cap W hx hs h)
  have HNX := zH (fun W => next4_any x zs f W hx hs hfl.1 hfl.2)
  have HLI := zH (fun W => list_at x (nextL x zs (nextV x zs f)) (x.dl + 2).toNat W hx rfl (by omega) (by omega))
  rw [nextL_take x zs _ hx hs] at HLI
  have hZ : nextZ x zs f = if inB x (nextV x zs f) then nextR zs (nextV x zs f) else [] := by
    unfold nextZ nextE; rw [hF]; cases inB x (nextV x zs f) <;> rfl
  have hN : nextE x zs f = if inB x (nextV x zs f) then 0 else 22 := by
    unfold nextE; rw [hF]; cases inB x (nextV x zs f) <;> rfl
  have HE : Hid (firstE [0, unl (inF x f) 6] = 0) := by rw [hF]; exact zH rfl
  rw [hE] at HCS
  rw [hZ, hN]
  unfold inF at HE
  obtain ⟨NL, hNL⟩ : ∃ NL, nextL x zs (nextV x zs f) = NL := ⟨_, rfl⟩
  obtain ⟨NR, hNR⟩ : ∃ NR, nextR zs (nextV x zs f) = NR := ⟨_, rfl⟩
  obtain ⟨ib, hib⟩ : ∃ ib, inB x (nextV x zs f) = ib := ⟨_, rfl⟩
  rw [hNL, hib] at HNX
  rw [hNL, hNR] at HLI
  rw [hNR, hib]
  have HR0 := zH hr
  clear hr hE hF hlz hxd hZ hN hNL hNR hib hs hfl hx
  go_enter Try.func12, Try.ntmps12
  go_upto_region 1 with (fail)
  obtain ⟨W, hW⟩ : ∃ W, w.alloc (.cells x.cells 25) = W := ⟨_, rfl⟩
  rw [hW]
  have K0 : Hid (Blk W w.heap.size x.cells) := by subst hW; exact zH (Blk.new _ _ _)
  have HB : Hid (Below w.heap.size w W) := by subst hW; exact zH (bAlloc (bSelf w) _)
  have HR : Hid (Reads W a zs.length (ints zs)) := by subst hW; exact zH (HR0.out.alloc _)
  clear hW
  refine wp_region_quiet_tail 12 (fun w' => Below (World.heap W).size (W) w') (by kernel_rfl) (by kernel_rfl) (Below.refl _ _).drew ?_
  simp only [List.take_succ_cons, List.take_zero, List.drop_succ_cons, List.drop_zero]
  repeat (first | (refine wpQuiet_no (by rfl) ?_; (simp only [Act.put, zzT, zzO, zzS])) | (refine wpQuiet_yes (by rfl) ?_; apply Exists.intro; refine ⟨fun w1 hb1 => ?_, ?_⟩; (focus (((obtain ⟨-, k0, -⟩ := K0.out.to hb1); have hb1 := zH hb1; go_simp); (try (go_bits; try go_simp)); (try (rw [if_pos (by omega)]; try go_simp)); (first | done | ((first | (go_at_call 43; refine (HCS.out _ (HR.out.to hb1.out)).mono ?_; rintro e w' ⟨rfl, hb⟩; exact ⟨rfl, bThen hb1.out hb⟩) | (go_at_call 44; refine (within_any _ _ _ _).mono ?_; rintro e w' ⟨rfl, rfl⟩; exact ⟨rfl, hb1.out⟩) | (go_at_call 33; refine (unless_any _ _ _).mono ?_; rintro e w' ⟨rfl, rfl⟩; exact ⟨rfl, hb1.out⟩))) | (with_reducible rfl) | exact rfl))); (simp only [Act.put, zzT, zzO, zzS])))
  refine wpQuiet_nil ?_
  intro w1 hb1
  have hb1 := zH hb1
  go_wp2_with fail
  refine (first2_new _ _ _ _ (by simp)).mono ?_
  rintro e w' ⟨rfl, rfl⟩
  rw [HE.out]
  obtain ⟨w2, hw2⟩ : ∃ w2, w1.alloc (.cells #[.int .i64 0, .int .i64 (unl (decide (x.lo ≤ f) && decide (f ≤ x.hi)) 6)] 31) = w2 := ⟨_, rfl⟩
  rw [hw2]
  replace K0 : Hid (Blk w2 w.heap.size x.cells) := by subst hw2; exact zH ((K0.out.to hb1.out).alloc _)
  replace HR : Hid (Reads w2 a zs.length (ints zs)) := by subst hw2; exact zH ((HR.out.to hb1.out).alloc _)
  replace HB : Hid (Below w.heap.size w w2) := by subst hw2; exact zH (bAlloc (bThen HB.out hb1.out) _)
  clear hw2 hb1
  obtain ⟨hK0, k0, -⟩ := K0.out
  go_upto_region 5 with (fail)
  obtain ⟨w3, hw3⟩ : ∃ w3, w2.alloc (.cells x.cells 68) = w3 := ⟨_, rfl⟩
  rw [hw3]
  have K9 : Hid (Blk w3 w2.heap.size x.cells) := by subst hw3; exact zH (Blk.new w2 x.cells 68)
  have hb3 : Hid (Below w2.heap.size w2 w3) := by subst hw3; exact zH (bAlloc (bSelf w2) _)
  replace HR := zH (HR.out.to hb3.out)
  replace HB := zH (bThen HB.out hb3.out)
  clear hw3 k0 hb3 hK0 K0
  have hK9 := K9.out.1
  go_cut [10, 11] (fun s10 s11 wc => ∃ B, s10 = .pointer (some ⟨B, 0, none⟩) ∧ s11 = .bool ib ∧ Hid (Blk wc B (l4 NL)) ∧ Hid (Below w3.heap.size w3 wc))
  case first =>
    refine wp_region_tree (by kernel_rfl) (fun w5 hwd => ?_)
    have T := zH hwd
    clear hwd
    refine WTq 0 ?_; apply Exists.intro; refine ⟨fun w1 hb1 => ?_, ?_⟩; (focus (((obtain ⟨-, k9, -⟩ := (K9.out.to T.out).below hb1 hK9); have hb1 := zH hb1; go_simp); (try (go_bits; try go_simp)); (try (rw [if_pos (by omega)]; try go_simp)); (first | done | (with_reducible rfl) | exact rfl)))
    simp only [Act.put, zzT, zzO, zzS]
    refine WTq 1 ?_; apply Exists.intro; refine ⟨fun w1 hb1 => ?_, ?_⟩; (focus ((have hb1 := zH hb1; go_simp); (try (go_bits; try go_simp)); (try (rw [if_pos (by omega)]; try go_simp)); (first | done | (with_reducible rfl) | exact rfl)))
    simp only [Act.put, zzT, zzO, zzS]
    refine WTq 3 ?_; apply Exists.intro; refine ⟨fun w1 hb1 => ?_, ?_⟩; (focus ((have hb1 := zH hb1; go_simp); (try (go_bits; try go_simp)); (try (rw [if_pos (by omega)]; try go_simp)); (first | done | (with_reducible rfl) | exact rfl)))
    simp only [Act.put, zzT, zzO, zzS]
    refine WT_two 2 8 rfl rfl (by kernel_rfl) ?_ ?_
    · skip
      unfold stepT
      go_wp2_with fail
      refine (HSO.out _ (HR.out.to T.out)).mono ?_
      rintro e w6 ⟨rfl, hb⟩
      have hbd := zH (hb.mono T.out.size)
      replace T := zH (bThen T.out hb)
      try replace KA := zH (KA.out.to hb)
      clear hb
      go_wp2_with fail
      refine ⟨hbd.out, ?_⟩
      clear hbd
      refine WT_two 4 8 rfl rfl (by kernel_rfl) ?_ ?_
      · skip
        unfold stepT
        go_wp2_with fail
        refine (HNX.out _).mono ?_
        rintro e w7 ⟨rfl, hb⟩
        have hbd := zH (hb.mono T.out.size)
        replace T := zH (bThen T.out hb)
        try replace KA := zH (KA.out.to hb)
        clear hb
        go_wp2_with fail
        refine ⟨hbd.out, ?_⟩
        clear hbd
        refine WTq 5 ?_; apply Exists.intro; refine ⟨fun w1 hb1 => ?_, ?_⟩; (focus ((have hb1 := zH hb1; go_simp); (try (go_bits; try go_simp)); (try (rw [if_pos (by omega)]; try go_simp)); (first | done | (with_reducible rfl) | exact rfl)))
        simp only [Act.put, zzT, zzO, zzS]
        refine WTq 6 ?_; apply Exists.intro; refine ⟨fun w1 hb1 => ?_, ?_⟩; (focus ((have hb1 := zH hb1; go_simp); (try (go_bits; try go_simp)); (try (rw [if_pos (by omega)]; try go_simp)); (first | done | (with_reducible rfl) | exact rfl)))
        simp only [Act.put, zzT, zzO, zzS]
        refine WTq 7 ?_; apply Exists.intro; refine ⟨fun w1 hb1 => ?_, ?_⟩; (focus ((have hb1 := zH hb1; go_simp); (try (go_bits; try go_simp)); (try (rw [if_pos (by omega)]; try go_simp)); (first | done | (with_reducible rfl) | exact rfl)))
        simp only [Act.put, zzT, zzO, zzS]
        refine WT_one 8 rfl (by kernel_rfl) ?_
        unfold stepT
        go_wp2_with fail
        obtain ⟨w8, hwA⟩ : ∃ wA, w7.alloc (.cells #[.int .i64 0, .int .i64 0, .int .i64 0, .int .i64 0] 72) = wA := ⟨_, rfl⟩
        rw [hwA]
        have hb : Below w7.heap.size w7 w8 := by subst hwA; exact bAlloc (bSelf _) _
        have KA : Hid (Blk w8 w7.heap.size #[.int .i64 0, .int .i64 0, .int .i64 0, .int .i64 0]) := by subst hwA; exact Blk.new _ _ _
        have KAN := zH T.out.size
        clear hwA
        have hbd := zH (hb.mono T.out.size)
        replace T := zH (bThen T.out hb)
        try replace HA := zH (HA.out.to hb)
        refine ⟨hbd.out, ?_⟩
        clear hbd hb
        refine WT_one 9 rfl (by kernel_rfl) ?_
        unfold stepT
        obtain ⟨hka, ka, fa⟩ := KA.out
        go_wp2_with fail
        clear ka fa
        refine ⟨((((Below.refl _ _).setCell (p := ⟨_, 0, none⟩) KAN.out _).setCell (p := ⟨_, 1, none⟩) KAN.out _).setCell (p := ⟨_, 2, none⟩) KAN.out _).setCell (p := ⟨_, 3, none⟩) KAN.out _, ?_⟩
        refine WTq 10 ?_; apply Exists.intro; refine ⟨fun w1 hb1 => ?_, ?_⟩; (focus ((have hb1 := zH hb1; go_simp); (try (go_bits; try go_simp)); (try (rw [if_pos (by omega)]; try go_simp)); (first | done | (with_reducible rfl) | exact rfl)))
        simp only [Act.put, zzT, zzO, zzS]
        refine WT_done (by kernel_rfl) ?_
        go_wp2_with fail
        go_meet
        case rel => exact ⟨_, rfl, rfl, zH ((((KA.out.set 0 (.int .i64 (gi NL 0))).set 1 (.int .i64 (gi NL 1))).set 2 (.int .i64 (gi NL 2))).set 3 (.int .i64 (gi NL 3))), zH ((((T.out.setCell (p := ⟨_, 0, none⟩) KAN.out _).setCell (p := ⟨_, 1, none⟩) KAN.out _).setCell (p := ⟨_, 2, none⟩) KAN.out _).setCell (p := ⟨_, 3, none⟩) KAN.out _)⟩
      · skip
        unfold stepT
        go_wp2_with fail
        obtain ⟨w7, hwA⟩ : ∃ wA, w6.alloc (.cells #[.int .i64 0, .int .i64 0, .int .i64 0, .int .i64 0] 72) = wA := ⟨_, rfl⟩
        rw [hwA]
        have hb : Below w6.heap.size w6 w7 := by subst hwA; exact bAlloc (bSelf _) _
        have KA : Hid (Blk w7 w6.heap.size #[.int .i64 0, .int .i64 0, .int .i64 0, .int .i64 0]) := by subst hwA; exact Blk.new _ _ _
        have KAN := zH T.out.size
        clear hwA
        have hbd := zH (hb.mono T.out.size)
        replace T := zH (bThen T.out hb)
        try replace HA := zH (HA.out.to hb)
        refine ⟨hbd.out, ?_⟩
        clear hbd hb
        refine WT_one 4 rfl (by kernel_rfl) ?_
        unfold stepT
        go_wp2_with fail
        refine (HNX.out _).mono ?_
        rintro e w8 ⟨rfl, hb⟩
        have hbd := zH (hb.mono T.out.size)
        replace T := zH (bThen T.out hb)
        try replace KA := zH (KA.out.to hb)
        clear hb
        go_wp2_with fail
        refine ⟨hbd.out, ?_⟩
        clear hbd
        refine WTq 5 ?_; apply Exists.intro; refine ⟨fun w1 hb1 => ?_, ?_⟩; (focus ((have hb1 := zH hb1; go_simp); (try (go_bits; try go_simp)); (try (rw [if_pos (by omega)]; try go_simp)); (first | done | (with_reducible rfl) | exact rfl)))
        simp only [Act.put, zzT, zzO, zzS]
        refine WTq 6 ?_; apply Exists.intro; refine ⟨fun w1 hb1 => ?_, ?_⟩; (focus ((have hb1 := zH hb1; go_simp); (try (go_bits; try go_simp)); (try (rw [if_pos (by omega)]; try go_simp)); (first | done | (with_reducible rfl) | exact rfl)))
        simp only [Act.put, zzT, zzO, zzS]
        refine WTq 7 ?_; apply Exists.intro; refine ⟨fun w1 hb1 => ?_, ?_⟩; (focus ((have hb1 := zH hb1; go_simp); (try (go_bits; try go_simp)); (try (rw [if_pos (by omega)]; try go_simp)); (first | done | (with_reducible rfl) | exact rfl)))
        simp only [Act.put, zzT, zzO, zzS]
        refine WT_one 9 rfl (by kernel_rfl) ?_
        unfold stepT
        obtain ⟨hka, ka, fa⟩ := KA.out
        go_wp2_with fail
        clear ka fa
        refine ⟨((((Below.refl _ _).setCell (p := ⟨_, 0, none⟩) KAN.out _).setCell (p := ⟨_, 1, none⟩) KAN.out _).setCell (p := ⟨_, 2, none⟩) KAN.out _).setCell (p := ⟨_, 3, none⟩) KAN.out _, ?_⟩
        refine WTq 10 ?_; apply Exists.intro; refine ⟨fun w1 hb1 => ?_, ?_⟩; (focus ((have hb1 := zH hb1; go_simp); (try (go_bits; try go_simp)); (try (rw [if_pos (by omega)]; try go_simp)); (first | done | (with_reducible rfl) | exact rfl)))
        simp only [Act.put, zzT, zzO, zzS]
        refine WT_done (by kernel_rfl) ?_
        go_wp2_with fail
        go_meet
        case rel => exact ⟨_, rfl, rfl, zH ((((KA.out.set 0 (.int .i64 (gi NL 0))).set 1 (.int .i64 (gi NL 1))).set 2 (.int .i64 (gi NL 2))).set 3 (.int .i64 (gi NL 3))), zH ((((T.out.setCell (p := ⟨_, 0, none⟩) KAN.out _).setCell (p := ⟨_, 1, none⟩) KAN.out _).setCell (p := ⟨_, 2, none⟩) KAN.out _).setCell (p := ⟨_, 3, none⟩) KAN.out _)⟩
    · skip
      unfold stepT
      go_wp2_with fail
      obtain ⟨w6, hwA⟩ : ∃ wA, w5.alloc (.cells #[.int .i64 0, .int .i64 0, .int .i64 0, .int .i64 0] 72) = wA := ⟨_, rfl⟩
      rw [hwA]
      have hb : Below w5.heap.size w5 w6 := by subst hwA; exact bAlloc (bSelf _) _
      have KA : Hid (Blk w6 w5.heap.size #[.int .i64 0, .int .i64 0, .int .i64 0, .int .i64 0]) := by subst hwA; exact Blk.new _ _ _
      have KAN := zH T.out.size
      clear hwA
      have hbd := zH (hb.mono T.out.size)
      replace T := zH (bThen T.out hb)
      try replace HA := zH (HA.out.to hb)
      refine ⟨hbd.out, ?_⟩
      clear hbd hb
      refine WT_one 2 rfl (by kernel_rfl) ?_
      unfold stepT
      go_wp2_with fail
      refine (HSO.out _ (HR.out.to T.out)).mono ?_
      rintro e w7 ⟨rfl, hb⟩
      have hbd := zH (hb.mono T.out.size)
      replace T := zH (bThen T.out hb)
      try replace KA := zH (KA.out.to hb)
      clear hb
      go_wp2_with fail
      refine ⟨hbd.out, ?_⟩
      clear hbd
      refine WT_one 4 rfl (by kernel_rfl) ?_
      unfold stepT
      go_wp2_with fail
      refine (HNX.out _).mono ?_
      rintro e w8 ⟨rfl, hb⟩
      have hbd := zH (hb.mono T.out.size)
      replace T := zH (bThen T.out hb)
      try replace KA := zH (KA.out.to hb)
      clear hb
      go_wp2_with fail
      refine ⟨hbd.out, ?_⟩
      clear hbd
      refine WTq 5 ?_; apply Exists.intro; refine ⟨fun w1 hb1 => ?_, ?_⟩; (focus ((have hb1 := zH hb1; go_simp); (try (go_bits; try go_simp)); (try (rw [if_pos (by omega)]; try go_simp)); (first | done | (with_reducible rfl) | exact rfl)))
      simp only [Act.put, zzT, zzO, zzS]
      refine WTq 6 ?_; apply Exists.intro; refine ⟨fun w1 hb1 => ?_, ?_⟩; (focus ((have hb1 := zH hb1; go_simp); (try (go_bits; try go_simp)); (try (rw [if_pos (by omega)]; try go_simp)); (first | done | (with_reducible rfl) | exact rfl)))
      simp only [Act.put, zzT, zzO, zzS]
      refine WTq 7 ?_; apply Exists.intro; refine ⟨fun w1 hb1 => ?_, ?_⟩; (focus ((have hb1 := zH hb1; go_simp); (try (go_bits; try go_simp)); (try (rw [if_pos (by omega)]; try go_simp)); (first | done | (with_reducible rfl) | exact rfl)))
      simp only [Act.put, zzT, zzO, zzS]
      refine WT_one 9 rfl (by kernel_rfl) ?_
      unfold stepT
      obtain ⟨hka, ka, fa⟩ := KA.out
      go_wp2_with fail
      clear ka fa
      refine ⟨((((Below.refl _ _).setCell (p := ⟨_, 0, none⟩) KAN.out _).setCell (p := ⟨_, 1, none⟩) KAN.out _).setCell (p := ⟨_, 2, none⟩) KAN.out _).setCell (p := ⟨_, 3, none⟩) KAN.out _, ?_⟩
      refine WTq 10 ?_; apply Exists.intro; refine ⟨fun w1 hb1 => ?_, ?_⟩; (focus ((have hb1 := zH hb1; go_simp); (try (go_bits; try go_simp)); (try (rw [if_pos (by omega)]; try go_simp)); (first | done | (with_reducible rfl) | exact rfl)))
      simp only [Act.put, zzT, zzO, zzS]
      refine WT_done (by kernel_rfl) ?_
      go_wp2_with fail
      go_meet
      case rel => exact ⟨_, rfl, rfl, zH ((((KA.out.set 0 (.int .i64 (gi NL 0))).set 1 (.int .i64 (gi NL 1))).set 2 (.int .i64 (gi NL 2))).set 3 (.int .i64 (gi NL 3))), zH ((((T.out.setCell (p := ⟨_, 0, none⟩) KAN.out _).setCell (p := ⟨_, 1, none⟩) KAN.out _).setCell (p := ⟨_, 2, none⟩) KAN.out _).setCell (p := ⟨_, 3, none⟩) KAN.out _)⟩
  case rest =>
    obtain ⟨B, rfl, rfl, KA, T⟩ := hcut
    replace K9 := zH (K9.out.to T.out)
    replace HB := zH (bThen HB.out T.out)
    clear T hK9
    cases ib with
    | false =>
      go_wp2_with fail
      go_ret2
      exact ⟨none, 0, rfl, Nat.le_refl _, .inl rfl, HB.out⟩
    | true =>
      obtain ⟨-, k9, -⟩ := K9.out
      obtain ⟨-, ka, -⟩ := KA.out
      go_wp2_with fail
      refine (HLI.out _).mono ?_
      rintro e w9 ⟨a', cap', rfl, hc', hr', hb⟩
      replace HB := zH (bThen HB.out hb)
      have HR2 := zH hr'
      clear hb hr' k9 ka
      go_wp2_with fail
      go_ret2
      exact ⟨a', cap', rfl, hc', HR2.out, HB.out⟩

/-- The next state with its error, for any test and state. -/
def nofAll (x : HT) (zs : List Int) (f : Int) : Int := if checkE x zs = 0 then nextE x zs f else checkE x zs
def nofZ (x : HT) (zs : List Int) (f : Int) : List Int := if checkE x zs = 0 then nextZ x zs f else []
theorem NextOf_any (x : HT) (zs : List Int) (a : Option Addr) (cap : Nat) (f : Int) (w : World) (hlen : zs.length ≤ maxLen) (hr : Reads w a zs.length (ints zs)) :
    Calls Try.prog 12 #[.agg x.cells, .slice a zs.length cap, .int .i64 f] w (fun e w1 => NofPost (nofZ x zs f) (nofAll x zs f) w e w1) := by
  by_cases hE : checkE x zs = 0
  · have e1 : nofAll x zs f = nextE x zs f := if_pos hE
    have e2 : nofZ x zs f = nextZ x zs f := if_pos hE
    rw [e1, e2]
    cases hF : inF x f with
    | true => exact NextOf_ok x zs a cap f w hlen hr hE hF
    | false =>
      have e3 : nofE x zs f = 6 := by unfold nofE; rw [hE, hF]; rfl
      have e4 : nextE x zs f = 6 := by unfold nextE; rw [hF]; rfl
      have e5 : nextZ x zs f = [] := by unfold nextZ; rw [e4]; rfl
      rw [e4, e5]
      refine (NextOf_bad x zs a cap f w hlen hr (by rw [e3]; decide)).mono ?_
      rintro e w' ⟨rfl, hb⟩
      rw [e3]
      exact ⟨none, 0, rfl, Nat.le_refl _, .inl rfl, hb⟩
  · have e1 : nofAll x zs f = checkE x zs := if_neg hE
    have e2 : nofZ x zs f = [] := if_neg hE
    have e3 : nofE x zs f = checkE x zs := by unfold nofE; simp only [firstE]; rw [if_neg hE]
    rw [e1, e2]
    refine (NextOf_bad x zs a cap f w hlen hr (by rw [e3]; exact hE)).mono ?_
    rintro e w' ⟨rfl, hb⟩
    rw [e3]
    exact ⟨none, 0, rfl, Nat.le_refl _, .inl rfl, hb⟩
end
end Go.Proofs.Ytfdlhhinomjakaa
