/-
  Texts of this claim, in their build order: J1 J2.
-/
import Derived.Test.YtfdlhhinomjakaaHel11
import Derived.Test.YtfdlhhinomjakaaHel2
import Derived.Test.YtfdlhhinomjakaaHel12
import Derived.Test.YtfdlhhinomjakaaHel0

namespace Go.Proofs.Ytfdlhhinomjakaa
section
open Go.RowKit

/-- The error of one number of a state, and of a state. -/
def stB (x : HT) (zs : List Int) (k : Nat) : Bool := decide (-x.b ≤ gi zs k) && decide (gi zs k ≤ x.b)
def stE (x : HT) (zs : List Int) (k : Nat) : Int := unl (stB x zs k) 2
def stateE (x : HT) (zs : List Int) : Int := firstE [unl ((zs.length : Int) == x.dl + 2) 10, (eachR (stE x zs) 0 zs.length).2]

theorem stateE1_any (x : HT) (n k : Int) (p : Nat) (w : World) (hx : x.ok) (hb : w.cell? ⟨p, 6, none⟩ = some (.int .i64 x.b)) :
    Calls Try.prog 60 #[.int .i64 k, .int .i64 n, .pointer (some ⟨p, 0, none⟩)] w fun e w' => e = .returned (.int .i64 (unl (decide (-x.b ≤ n) && decide (n ≤ x.b)) 2)) ∧ w = w' := by
  have hb1 := hx.b1
  have hb2 := hx.b2
  go_enter Try.func60, Try.ntmps60
  go_wp2_with (first | (go_at_call 53; refine (sized_any _ _ _ (by omega) (by omega)).mono ?_; rintro e w' ⟨rfl, rfl⟩) | (go_at_call 33; refine (unless_any _ _ _).mono ?_; rintro e w' ⟨rfl, rfl⟩))
  go_ret
  exact ⟨rfl, rfl⟩

set_option maxHeartbeats 400000 in
theorem stateErr_any (x : HT) (zs : List Int) (a : Option Addr) (cap : Nat) (w : World) (hx : x.ok) (hlen : zs.length ≤ maxLen) (hr : Reads w a zs.length (ints zs)) :
    Calls Try.prog 37 #[.agg x.cells, .slice a zs.length cap] w fun e w' => e = .returned (.int .i64 (stateE x zs)) ∧ Below w.heap.size w w' := by
  have HL := zH hlen
  unfold maxLen at hlen
  have hR := zH hr
  clear hr
  go_enter Try.func37, Try.ntmps37
  go_wp2_with fail
  refine (each_int zs a cap 60 _ _ (stE x zs) (fun _ w' => w' = w.alloc (.cells x.cells 68)) HL.out (by intro args w; go_simp) rfl (fun k w' hk hw => by subst hw; exact hR.out.alloc _) (fun k w' hk hw => by
    subst hw
    refine (stateE1_any x _ _ _ _ hx (by simp [World.cell?_alloc_new])).mono ?_
    rintro e w' ⟨rfl, rfl⟩
    exact ⟨rfl, rfl⟩)).mono ?_
  rintro e w' ⟨rfl, k, hk, rfl⟩
  go_wp2_with fail
  refine (count_any x _ hx).mono ?_
  rintro e w1 ⟨rfl, hb⟩
  have HB := zH (bThen (bAlloc (bSelf w) (.cells x.cells 68)) hb)
  clear hb
  go_wp2_with (first | (go_at_call 33; refine (unless_any _ _ _).mono ?_; rintro e w' ⟨rfl, rfl⟩))
  refine (first2_new _ _ _ _ (by simp)).mono ?_; rintro e w' ⟨rfl, rfl⟩
  go_wp2_with fail
  go_ret
  exact ⟨rfl, bAlloc HB.out _⟩

theorem CheckState_bad (x : HT) (zs : List Int) (a : Option Addr) (cap : Nat) (w : World) (hE : testE x ≠ 0) :
    Calls Try.prog 43 #[.agg x.cells, .slice a zs.length cap] w fun e w' => e = .returned (.int .i64 (testE x)) ∧ Below w.heap.size w w' := by
  have HCT := zH (fun W => CheckTest_any x W)
  obtain ⟨c, hcE⟩ : ∃ c, testE x = c := ⟨_, rfl⟩
  rw [hcE] at HCT hE ⊢
  clear hcE
  have hc1 : (c != 0) = true := by simpa using hE
  go_enter Try.func43, Try.ntmps43
  go_wp2_with fail
  refine (HCT.out _).mono ?_
  rintro e w1 ⟨rfl, hb⟩
  have HB := zH (bThen (bAlloc (bSelf w) (.cells x.cells 25)) hb)
  clear hb
  go_wp2_with fail
  go_ret
  exact ⟨rfl, HB.out⟩

theorem CheckState_ok (x : HT) (zs : List Int) (a : Option Addr) (cap : Nat) (w : World) (hE : testE x = 0) (hlen : zs.length ≤ maxLen) (hr : Reads w a zs.length (ints zs)) :
    Calls Try.prog 43 #[.agg x.cells, .slice a zs.length cap] w fun e w' => e = .returned (.int .i64 (stateE x zs)) ∧ Below w.heap.size w w' := by
  have hx := testE_zero hE
  have HCT := zH (fun W => CheckTest_any x W)
  rw [hE] at HCT
  have HR0 := zH hr
  have HL := zH hlen
  clear hr hlen hE
  go_enter Try.func43, Try.ntmps43
  go_wp2_with fail
  refine (HCT.out _).mono ?_
  rintro e w1 ⟨rfl, hb⟩
  have K0 := zH ((Blk.new w x.cells 25).to hb)
  have HB := zH (bThen (bAlloc (bSelf w) (.cells x.cells 25)) hb)
  have HR := zH ((HR0.out.alloc (.cells x.cells 25)).to hb)
  clear hb
  obtain ⟨-, k0, -⟩ := K0.out
  go_wp2_with fail
  refine (stateErr_any x zs a cap _ hx HL.out HR.out).mono ?_
  rintro e w2 ⟨rfl, hb⟩
  replace HB := zH (bThen HB.out hb)
  clear hb
  go_wp2_with fail
  go_ret
  exact ⟨rfl, HB.out⟩

/-- Nine stores into a block. -/
abbrev set9 (W : World) (b : Nat) (v0 v1 v2 v3 v4 v5 v6 v7 v8 : Value) : World := (((((((((W.setCell ⟨b, 0, none⟩ v0).setCell ⟨b, 1, none⟩ v1).setCell ⟨b, 2, none⟩ v2).setCell ⟨b, 3, none⟩ v3).setCell ⟨b, 4, none⟩ v4).setCell ⟨b, 5, none⟩ v5).setCell ⟨b, 6, none⟩ v6).setCell ⟨b, 7, none⟩ v7).setCell ⟨b, 8, none⟩ v8)
theorem Blk.set9 {W : World} {b : Nat} {c0 c1 c2 c3 c4 c5 c6 c7 c8 : Value} (h : Blk W b #[c0, c1, c2, c3, c4, c5, c6, c7, c8]) (v0 v1 v2 v3 v4 v5 v6 v7 v8 : Value) : Blk (_root_.Go.Proofs.Ytfdlhhinomjakaa.set9 W b v0 v1 v2 v3 v4 v5 v6 v7 v8) b #[v0, v1, v2, v3, v4, v5, v6, v7, v8] := by
  have h1 : Blk (W.setCell ⟨b, 0, none⟩ v0) b #[v0, c1, c2, c3, c4, c5, c6, c7, c8] := h.set 0 v0
  have h2 : Blk ((W.setCell ⟨b, 0, none⟩ v0).setCell ⟨b, 1, none⟩ v1) b #[v0, v1, c2, c3, c4, c5, c6, c7, c8] := h1.set 1 v1
  have h3 : Blk (((W.setCell ⟨b, 0, none⟩ v0).setCell ⟨b, 1, none⟩ v1).setCell ⟨b, 2, none⟩ v2) b #[v0, v1, v2, c3, c4, c5, c6, c7, c8] := h2.set 2 v2
  have h4 : Blk ((((W.setCell ⟨b, 0, none⟩ v0).setCell ⟨b, 1, none⟩ v1).setCell ⟨b, 2, none⟩ v2).setCell ⟨b, 3, none⟩ v3) b #[v0, v1, v2, v3, c4, c5, c6, c7, c8] := h3.set 3 v3
  have h5 : Blk (((((W.setCell ⟨b, 0, none⟩ v0).setCell ⟨b, 1, none⟩ v1).setCell ⟨b, 2, none⟩ v2).setCell ⟨b, 3, none⟩ v3).setCell ⟨b, 4, none⟩ v4) b #[v0, v1, v2, v3, v4, c5, c6, c7, c8] := h4.set 4 v4
  have h6 : Blk ((((((W.setCell ⟨b, 0, none⟩ v0).setCell ⟨b, 1, none⟩ v1).setCell ⟨b, 2, none⟩ v2).setCell ⟨b, 3, none⟩ v3).setCell ⟨b, 4, none⟩ v4).setCell ⟨b, 5, none⟩ v5) b #[v0, v1, v2, v3, v4, v5, c6, c7, c8] := h5.set 5 v5
  have h7 : Blk (((((((W.setCell ⟨b, 0, none⟩ v0).setCell ⟨b, 1, none⟩ v1).setCell ⟨b, 2, none⟩ v2).setCell ⟨b, 3, none⟩ v3).setCell ⟨b, 4, none⟩ v4).setCell ⟨b, 5, none⟩ v5).setCell ⟨b, 6, none⟩ v6) b #[v0, v1, v2, v3, v4, v5, v6, c7, c8] := h6.set 6 v6
  have h8 : Blk ((((((((W.setCell ⟨b, 0, none⟩ v0).setCell ⟨b, 1, none⟩ v1).setCell ⟨b, 2, none⟩ v2).setCell ⟨b, 3, none⟩ v3).setCell ⟨b, 4, none⟩ v4).setCell ⟨b, 5, none⟩ v5).setCell ⟨b, 6, none⟩ v6).setCell ⟨b, 7, none⟩ v7) b #[v0, v1, v2, v3, v4, v5, v6, v7, c8] := h7.set 7 v7
  have h9 : Blk (((((((((W.setCell ⟨b, 0, none⟩ v0).setCell ⟨b, 1, none⟩ v1).setCell ⟨b, 2, none⟩ v2).setCell ⟨b, 3, none⟩ v3).setCell ⟨b, 4, none⟩ v4).setCell ⟨b, 5, none⟩ v5).setCell ⟨b, 6, none⟩ v6).setCell ⟨b, 7, none⟩ v7).setCell ⟨b, 8, none⟩ v8) b #[v0, v1, v2, v3, v4, v5, v6, v7, v8] := h8.set 8 v8
  exact h9
theorem below_set9 {B : Nat} {W W' : World} (h : Below B W W') {b : Nat} (hB : B ≤ b) (v0 v1 v2 v3 v4 v5 v6 v7 v8 : Value) : Below B W (set9 W' b v0 v1 v2 v3 v4 v5 v6 v7 v8) := (((((((((h.setCell (p := ⟨b, 0, none⟩) hB _).setCell (p := ⟨b, 1, none⟩) hB _).setCell (p := ⟨b, 2, none⟩) hB _).setCell (p := ⟨b, 3, none⟩) hB _).setCell (p := ⟨b, 4, none⟩) hB _).setCell (p := ⟨b, 5, none⟩) hB _).setCell (p := ⟨b, 6, none⟩) hB _).setCell (p := ⟨b, 7, none⟩) hB _).setCell (p := ⟨b, 8, none⟩) hB _)
end
section
open Go.RowKit

/-- Is a number of a state out? -/
theorem stE_out {x : HT} {zs : List Int} {k : Nat} (h : stB x zs k = false) : stE x zs k = 2 := by unfold stE; rw [h]; rfl
theorem stE_in {x : HT} {zs : List Int} {k : Nat} (h : stB x zs k = true) : stE x zs k = 0 := by unfold stE; rw [h]; rfl
theorem stateE_len {x : HT} {zs : List Int} (h : (zs.length : Int) ≠ x.dl + 2) : stateE x zs = 10 := by
  have : ((zs.length : Int) == x.dl + 2) = false := by simpa using h
  simp only [stateE, firstE, unl, this]; rfl
theorem stateE_eq {x : HT} {zs : List Int} (h : (zs.length : Int) = x.dl + 2) : stateE x zs = (eachR (stE x zs) 0 zs.length).2 := by
  have : ((zs.length : Int) == x.dl + 2) = true := by simpa using h
  simp only [stateE, firstE, unl, this, if_true]
  by_cases h0 : (eachR (stE x zs) 0 zs.length).2 = 0 <;> simp [h0]

theorem eachR_none {err : Nat → Int} : ∀ m k, (eachR err k m).2 = 0 → ∀ i, k ≤ i → i < k + m → err i = 0
  | 0, k, _, i, h1, h2 => by omega
  | m + 1, k, h, i, h1, h2 => by
    unfold eachR at h
    by_cases he : err k = 0
    · rw [if_pos he] at h
      by_cases hk : i = k
      · rw [hk]; exact he
      · exact eachR_none m (k + 1) h i (by omega) (by omega)
    · rw [if_neg he] at h; exact absurd h he

/-- A valid state. -/
theorem stateE_zero {x : HT} {zs : List Int} (hx : x.ok) (h : stateE x zs = 0) : RSt x zs := by
  by_cases hl : (zs.length : Int) = x.dl + 2
  · refine ⟨hl, fun i => ?_⟩
    have hb := hx.b2
    have hb1 := hx.b1
    by_cases hi : i < zs.length
    · rw [stateE_eq hl] at h
      have h1 := eachR_none _ _ h i (Nat.zero_le _) (by omega)
      cases hB : stB x zs i with
      | false => rw [stE_out hB] at h1; cases h1
      | true => unfold stB at hB; simp at hB; omega
    · rw [gi_out _ _ (by omega)]; omega
  · rw [stateE_len hl] at h; cases h

set_option maxHeartbeats 400000 in
set_option maxRecDepth 100000 in
theorem StateErr_any (x : HT) (zs : List Int) (a : Option Addr) (cap : Nat) (w : World) (hx : x.ok) (hlen : zs.length ≤ 1000) (hr : Reads w a zs.length (ints zs)) :
    Calls Try.prog 15 #[.agg x.cells, .slice a zs.length cap] w fun e w' => e = .returned (.int .i64 (stateE x zs)) ∧ Below w.heap.size w w' := by
  have hR := zH hr
  have d1 := hx.dl1
  have d2 := hx.dl2
  have hxb1 := hx.b1
  have hxb2 := hx.b2
  clear hr
  by_cases hm : (zs.length : Int) = x.dl + 2
  · have hm1 : ((zs.length : Int) != x.dl + 2) = false := by simpa using hm
    have HM := zH hm
    clear hm
    go_enter Try.func15, Try.ntmps15
    go_wp2_with fail
    clear hm1
    go_loopw [5] (fun i wr => ∃ k : Nat, k ≤ zs.length ∧ i = .int .i64 k ∧ Hid (eachR (stE x zs) 0 zs.length = eachR (stE x zs) k (zs.length - k)) ∧ Hid (Below (w.heap.size + 1) (w.alloc (.cells x.cells 25)) wr)) (fun i _ => zs.length - (intOf i).toNat)
    case atStart => exact ⟨0, Nat.zero_le _, rfl, zH rfl, zH (Below.refl _ _)⟩
    case round =>
      obtain ⟨k, hk, rfl, hr, hI⟩ := hrel
      by_cases hlt : k < zs.length
      · have hcx := bcell hI.out
        obtain ⟨hcx, hfx⟩ := hcx
        clear hfx
        obtain ⟨b, off, rfl, hb, hc⟩ := ((hR.out.alloc (.cells x.cells 25)).below hI.out (by simp)).at hlt
        have h1 : wr.cell? ⟨b, off + k, none⟩ = some (.int .i64 (gi zs k)) := hc k hlt
        clear hc
        have h2 : wr.cell? ⟨w.heap.size, 6, none⟩ = some (.int .i64 x.b) := by rw [hcx _ _ (by omega)]; simp [World.cell?_alloc_new]
        have hsz : w.heap.size < wr.heap.size := by have := hI.out.size; simp at this; omega
        clear hcx
        go_wp2_with fail
        go_cut [28] (fun s28 w' => s28 = .bool (!stB x zs k) ∧ Hid (Below wr.heap.size wr w'))
        case first =>
          refine wp_region_quiet_all (fun w' => Below (wr.heap.size) (wr) w') (by kernel_rfl) (by kernel_rfl) (Below.refl _ _).drew ?_
          repeat (first | (refine wpQuiet_no (by rfl) ?_; (simp only [Act.put, zzT, zzO, zzS])) | (refine wpQuiet_yes (by rfl) ?_; apply Exists.intro; refine ⟨fun w1 hb1 => ?_, ?_⟩; (focus ((have hcf := bcell hb1; obtain ⟨hc1, hf1⟩ := hcf; have hb1 := zH hb1; go_simp); (try (go_bits; try go_simp)); (first | done | (((go_at_call 20); refine (bWithin_any _ _ _ _).mono ?_; rintro e w' ⟨rfl, rfl⟩; exact ⟨rfl, hb1.out⟩)) | (with_reducible rfl) | exact rfl))); (simp only [Act.put, zzT, zzO, zzS])))
          refine wpQuiet_nil ?_
          intro w1 hb1
          have hcf := bcell hb1
          obtain ⟨hc1, hf1⟩ := hcf
          have hb1 := zH hb1
          go_wp2_with fail
          go_meet
          case rel => exact ⟨by unfold stB; first | rfl | (congr 1; rw [Bool.not_and]), hb1⟩
        case rest =>
          obtain ⟨rfl, hb2⟩ := hcut
          cases ho : stB x zs k
          all_goals have HO := zH ho; clear ho
          · go_wp2_with fail
            go_ret
            exact ⟨ret_int (by rw [stateE_eq HM.out, hr.out, eachR_stop hlt (by rw [stE_out HO.out]; decide), stE_out HO.out]), (((Below.refl _ _).alloc (Nat.le_refl _) _).trans (hI.out.mono (by omega))).trans (hb2.out.mono (by omega))⟩
          · go_wp2_with fail
            go_roundw
            case rel => exact ⟨k + 1, by omega, by go_num, hr.out.trans (eachR_step hlt (stE_in HO.out)), zH (hI.out.trans (hb2.out.mono (by omega)))⟩
            case measure => simp [intOf]; omega
      · have : k = zs.length := by omega
        subst this
        go_wp2
        go_ret
        exact ⟨ret_int (by rw [stateE_eq HM.out, hr.out, Nat.sub_self]; rfl), (((Below.refl _ _).alloc (Nat.le_refl _) _).trans (hI.out.mono (by omega)))⟩
  · have hm1 : ((zs.length : Int) != x.dl + 2) = true := by simpa using hm
    have HM := zH hm
    clear hm
    go_enter Try.func15, Try.ntmps15
    go_wp2_with fail
    go_ret
    exact ⟨ret_int (stateE_len HM.out).symm, (Below.refl _ _).alloc (Nat.le_refl _) _⟩

/-- The next state of the reference, with its error. -/
def inF (x : HT) (f : Int) : Bool := decide (x.lo ≤ f) && decide (f ≤ x.hi)
def nextE (x : HT) (st : List Int) (f : Int) : Int := firstE [unl (inF x f) 6, unl (inB x (nextV x st f)) 22]
def nextZ (x : HT) (st : List Int) (f : Int) : List Int := if nextE x st f = 0 then nextR st (nextV x st f) else []
end
end Go.Proofs.Ytfdlhhinomjakaa
