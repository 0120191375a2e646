/-
  Contracts of the reference: the error of a state, the whole, the next state.
-/
import Derived.Test.YtjieojkfpoiabaaJ1
import Derived.Test.YtjieojkfpoiabaaC3
namespace Go.Proofs.Ytjieojkfpoiabaa
open Go.RowKit

/-- Is a number of a state out? -/
theorem stE_out {x : HT} {zs : List Int} {k : Nat} (h : stB x zs k = false) : stE x zs k = 2 := by unfold stE; rw [h]; rfl
theorem stE_in {x : HT} {zs : List Int} {k : Nat} (h : stB x zs k = true) : stE x zs k = 0 := by unfold stE; rw [h]; rfl
theorem stateE_len {x : HT} {zs : List Int} (h : (zs.length : Int) ≠ x.dl + 2) : stateE x zs = 10 := by
  have : ((zs.length : Int) == x.dl + 2) = false := by simpa using h
  simp only [stateE, firstE, unl, this]; rfl
theorem stateE_eq {x : HT} {zs : List Int} (h : (zs.length : Int) = x.dl + 2) : stateE x zs = (eachR (stE x zs) 0 zs.length).2 := by
  have : ((zs.length : Int) == x.dl + 2) = true := by simpa using h
  simp only [stateE, firstE, unl, this, if_true]
  by_cases h0 : (eachR (stE x zs) 0 zs.length).2 = 0 <;> simp [h0]

theorem eachR_none {err : Nat → Int} : ∀ m k, (eachR err k m).2 = 0 → ∀ i, k ≤ i → i < k + m → err i = 0
  | 0, k, _, i, h1, h2 => by omega
  | m + 1, k, h, i, h1, h2 => by
    unfold eachR at h
    by_cases he : err k = 0
    · rw [if_pos he] at h
      by_cases hk : i = k
      · rw [hk]; exact he
      · exact eachR_none m (k + 1) h i (by omega) (by omega)
    · rw [if_neg he] at h; exact absurd h he

/-- A valid state. -/
theorem stateE_zero {x : HT} {zs : List Int} (hx : x.ok) (h : stateE x zs = 0) : RSt x zs := by
  by_cases hl : (zs.length : Int) = x.dl + 2
  · refine ⟨hl, fun i => ?_⟩
    have hb := hx.b2
    have hb1 := hx.b1
    by_cases hi : i < zs.length
    · rw [stateE_eq hl] at h
      have h1 := eachR_none _ _ h i (Nat.zero_le _) (by omega)
      cases hB : stB x zs i with
      | false => rw [stE_out hB] at h1; cases h1
      | true => unfold stB at hB; simp at hB; omega
    · rw [gi_out _ _ (by omega)]; omega
  · rw [stateE_len hl] at h; cases h

set_option maxHeartbeats 400000 in
set_option maxRecDepth 100000 in
theorem StateErr_any (x : HT) (zs : List Int) (a : Option Addr) (cap : Nat) (w : World) (hx : x.ok) (hlen : zs.length ≤ 1000) (hr : Reads w a zs.length (ints zs)) :
    Calls Try.prog 42 #[.agg x.cells, .slice a zs.length cap] w fun e w' => e = .returned (.int .i64 (stateE x zs)) ∧ Below w.heap.size w w' := by
  have hR := Lib.hid hr
  have d1 := hx.dl1
  have d2 := hx.dl2
  have hxb1 := hx.b1
  have hxb2 := hx.b2
  clear hr
  by_cases hm : (zs.length : Int) = x.dl + 2
  · have hm1 : ((zs.length : Int) != x.dl + 2) = false := by simpa using hm
    have HM := Lib.hid hm
    clear hm
    go_enter Try.func42, Try.ntmps42
    go_wp2_with fail
    clear hm1
    go_loopw [5] (fun i wr => ∃ k : Nat, k ≤ zs.length ∧ i = .int .i64 k ∧ Hid (eachR (stE x zs) 0 zs.length = eachR (stE x zs) k (zs.length - k)) ∧ Hid (Below (w.heap.size + 1) (w.alloc (.cells x.cells 25)) wr)) (fun i _ => zs.length - (intOf i).toNat)
    case atStart => exact ⟨0, Nat.zero_le _, rfl, Lib.hid rfl, Lib.hid (Below.refl _ _)⟩
    case round =>
      obtain ⟨k, hk, rfl, hr, hI⟩ := hrel
      by_cases hlt : k < zs.length
      · have hcx := bcell hI.out
        obtain ⟨hcx, hfx⟩ := hcx
        clear hfx
        obtain ⟨b, off, rfl, hb, hc⟩ := ((hR.out.alloc (.cells x.cells 25)).below hI.out (by simp)).at hlt
        have h1 : wr.cell? ⟨b, off + k, none⟩ = some (.int .i64 (gi zs k)) := hc k hlt
        clear hc
        have h2 : wr.cell? ⟨w.heap.size, 6, none⟩ = some (.int .i64 x.b) := by rw [hcx _ _ (by omega)]; simp [World.cell?_alloc_new]
        have hsz : w.heap.size < wr.heap.size := by have := hI.out.size; simp at this; omega
        clear hcx
        go_wp2_with fail
        go_cut [28] (fun s28 w' => s28 = .bool (!stB x zs k) ∧ Hid (Below wr.heap.size wr w'))
        case first =>
          refine wp_region_quiet_all (fun w' => Below (wr.heap.size) (wr) w') (by kernel_rfl) (by kernel_rfl) (Below.refl _ _).drew ?_
          repeat (first | (refine wpQuiet_no (by rfl) ?_; (simp only [Act.put, List.setIfInBounds_toArray, List.set_cons_zero, List.set_cons_succ])) | (refine wpQuiet_yes (by rfl) ?_; apply Exists.intro; refine ⟨fun w1 hb1 => ?_, ?_⟩; (focus ((have hcf := bcell hb1; obtain ⟨hc1, hf1⟩ := hcf; have hb1 := Lib.hid hb1; go_simp); (try (go_bits; try go_simp)); (first | done | (((go_at_call 33); refine (bWithin_any _ _ _ _).mono ?_; rintro e w' ⟨rfl, rfl⟩; exact ⟨rfl, hb1.out⟩)) | (with_reducible rfl) | exact rfl))); (simp only [Act.put, List.setIfInBounds_toArray, List.set_cons_zero, List.set_cons_succ])))
          refine wpQuiet_nil ?_
          intro w1 hb1
          have hcf := bcell hb1
          obtain ⟨hc1, hf1⟩ := hcf
          have hb1 := Lib.hid hb1
          go_wp2_with fail
          go_meet
          case rel => exact ⟨by unfold stB; first | rfl | (congr 1; rw [Bool.not_and]), hb1⟩
        case rest =>
          obtain ⟨rfl, hb2⟩ := hcut
          cases ho : stB x zs k
          all_goals have HO := Lib.hid ho; clear ho
          · go_wp2_with fail
            go_ret
            exact ⟨ret_int (by rw [stateE_eq HM.out, hr.out, eachR_stop hlt (by rw [stE_out HO.out]; decide), stE_out HO.out]), (((Below.refl _ _).alloc (Nat.le_refl _) _).trans (hI.out.mono (by omega))).trans (hb2.out.mono (by omega))⟩
          · go_wp2_with fail
            go_roundw
            case rel => exact ⟨k + 1, by omega, by go_num, hr.out.trans (eachR_step hlt (stE_in HO.out)), Lib.hid (hI.out.trans (hb2.out.mono (by omega)))⟩
            case measure => simp [intOf]; omega
      · have : k = zs.length := by omega
        subst this
        go_wp2
        go_ret
        exact ⟨ret_int (by rw [stateE_eq HM.out, hr.out, Nat.sub_self]; rfl), (((Below.refl _ _).alloc (Nat.le_refl _) _).trans (hI.out.mono (by omega)))⟩
  · have hm1 : ((zs.length : Int) != x.dl + 2) = true := by simpa using hm
    have HM := Lib.hid hm
    clear hm
    go_enter Try.func42, Try.ntmps42
    go_wp2_with fail
    go_ret
    exact ⟨ret_int (stateE_len HM.out).symm, (Below.refl _ _).alloc (Nat.le_refl _) _⟩

/-- The error of the whole of a test. -/
def wholeE (x : HT) : Int := if testE x = 0 then (if 1000 < x.c + x.s then 8 else 0) else testE x
theorem wholeE_bad {x : HT} (h : testE x ≠ 0) : wholeE x = testE x := if_neg h
theorem wholeE_large {x : HT} (h : testE x = 0) (h2 : 1000 < x.c + x.s) : wholeE x = 8 := by unfold wholeE; rw [if_pos h, if_pos h2]
theorem wholeE_ok {x : HT} (h : testE x = 0) (h2 : x.c + x.s ≤ 1000) : wholeE x = 0 := by unfold wholeE; rw [if_pos h, if_neg (by omega)]

theorem WholeErr_any (x : HT) (w : World) :
    Calls Try.prog 40 #[.agg x.cells] w fun e w' => e = .returned (.int .i64 (wholeE x)) ∧ Below w.heap.size w w' := by
  have HCT := Lib.hid (fun W => TestErr_any x W)
  by_cases hE : testE x = 0
  · have hx := testE_zero hE
    have c1 := hx.c1
    have c2 := hx.c2
    have s1 := hx.s1
    have s2 := hx.s2
    rw [hE] at HCT
    have HE := Lib.hid hE
    clear hE
    go_enter Try.func40, Try.ntmps40
    go_wp2_with fail
    refine (HCT.out _).mono ?_
    rintro e w1 ⟨rfl, hb⟩
    have K0 := Lib.hid ((Blk.new w x.cells 25).to hb)
    have HB := Lib.hid (bThen (bAlloc (bSelf w) _) hb)
    clear hb
    obtain ⟨h0, k0, f0⟩ := K0.out
    by_cases hl : 1000 < x.c + x.s
    · go_wp2_with fail
      go_ret
      exact ⟨ret_int (wholeE_large HE.out hl).symm, HB.out⟩
    · have hl' : x.c + x.s ≤ 1000 := by omega
      clear hl
      go_wp2_with fail
      go_ret
      exact ⟨ret_int (wholeE_ok HE.out hl').symm, HB.out⟩
  · obtain ⟨c, hcE⟩ : ∃ c, testE x = c := ⟨_, rfl⟩
    rw [wholeE_bad hE]
    rw [hcE] at HCT hE ⊢
    clear hcE
    have hc1 : (c != 0) = true := by simpa using hE
    go_enter Try.func40, Try.ntmps40
    go_wp2_with fail
    refine (HCT.out _).mono ?_
    rintro e w1 ⟨rfl, hb⟩
    have HB := Lib.hid (bThen (bAlloc (bSelf w) _) hb)
    clear hb
    go_wp2_with fail
    go_ret
    exact ⟨rfl, HB.out⟩

set_option maxHeartbeats 400000 in
theorem Whole_any (x : HT) (w : World) (hx : x.ok) :
    Calls Try.prog 41 #[.agg x.cells] w fun e w' => e = .returned (.agg x.whole.cells) ∧ Below w.heap.size w w' := by
  have c1 := hx.c1
  have c2 := hx.c2
  have s1 := hx.s1
  have s2 := hx.s2
  go_enter Try.func41, Try.ntmps41
  go_upto_region 1 with (fail)
  obtain ⟨w1, hw1⟩ : ∃ w1, (w.alloc (.cells x.cells 25)).alloc (.cells ht0.cells 25) = w1 := ⟨_, rfl⟩
  rw [hw1]
  have K0 : Hid (Blk w1 w.heap.size x.cells) := by subst hw1; exact Lib.hid ((Blk.new w x.cells 25).alloc _)
  have K1 : Hid (Blk w1 (w.heap.size + 1) ht0.cells) := by subst hw1; exact Lib.hid (Blk.newAt (B := w.heap.size + 1) (w.alloc (.cells x.cells 25)) ht0.cells 25 (by simp))
  have HB : Hid (Below w.heap.size w w1) := by subst hw1; exact Lib.hid (bAlloc (bAlloc (bSelf w) _) _)
  clear hw1
  obtain ⟨h0, k0, f0⟩ := K0.out
  go_upto_region 2 with (fail)
  obtain ⟨w2, hw2⟩ : ∃ w2, (((w1.setCell ⟨w.heap.size, 2, none⟩ (.int .i64 (x.c + x.s))).setCell ⟨w.heap.size, 3, none⟩ (.int .i64 0)).setCell ⟨w.heap.size, 4, none⟩ (.int .i64 0)) = w2 := ⟨_, rfl⟩
  rw [hw2]
  have K2 : Hid (Blk w2 w.heap.size x.whole.cells) := by subst hw2; exact Lib.hid (((K0.out.set 2 _).set 3 _).set 4 _)
  have K3 : Hid (Blk w2 (w.heap.size + 1) ht0.cells) := by subst hw2; exact Lib.hid (((K1.out.other (p := ⟨w.heap.size, 2, none⟩) (by dsimp only; omega) _).other (p := ⟨w.heap.size, 3, none⟩) (by dsimp only; omega) _).other (p := ⟨w.heap.size, 4, none⟩) (by dsimp only; omega) _)
  have HB2 : Hid (Below w.heap.size w w2) := by subst hw2; exact Lib.hid (((HB.out.setCell (p := ⟨w.heap.size, 2, none⟩) (Nat.le_refl _) _).setCell (p := ⟨w.heap.size, 3, none⟩) (Nat.le_refl _) _).setCell (p := ⟨w.heap.size, 4, none⟩) (Nat.le_refl _) _)
  clear hw2 k0 f0 h0 K0 K1 HB
  obtain ⟨h0, k0, f0⟩ := K2.out
  obtain ⟨h1, k1, f1⟩ := K3.out
  go_wp2_with fail
  clear k0 f0 k1 f1
  have F := (K3.out.set9 (.int .i64 x.m) (.int .i64 x.d) (.int .i64 (x.c + x.s)) (.int .i64 0) (.int .i64 0) (.bool x.cp) (.int .i64 x.b) (.int .i64 x.lo) (.int .i64 x.hi)).2.1
  have F0 := F 0; have F1 := F 1; have F2 := F 2; have F3 := F 3; have F4 := F 4; have F5 := F 5; have F6 := F 6; have F7 := F 7; have F8 := F 8
  clear F
  refine bodyPost_ret (v := .agg x.whole.cells) ?_ rfl ⟨rfl, ?_⟩
  · simp [results, Try.results41, go_sem, F0, F1, F2, F3, F4, F5, F6, F7, F8]
  · exact below_set9 HB2.out (by omega) _ _ _ _ _ _ _ _ _

/-- The next state of the reference, with its error. -/
def inF (x : HT) (f : Int) : Bool := decide (x.lo ≤ f) && decide (f ≤ x.hi)
def nextE (x : HT) (st : List Int) (f : Int) : Int := firstE [unl (inF x f) 6, unl (inB x (nextV x st f)) 22]
def nextZ (x : HT) (st : List Int) (f : Int) : List Int := if nextE x st f = 0 then nextR st (nextV x st f) else []

theorem NextErr_any (x : HT) (st : List Int) (a : Option Addr) (cap : Nat) (f : Int) (w : World) (hx : x.ok) (hs : RSt x st) (hr : Reads w a st.length (ints st)) (hcap : st.length ≤ cap) :
    Calls Try.prog 43 #[.agg x.cells, .slice a st.length cap, .int .i64 f] w fun e w' => ∃ a' cap', e = .returned (.tuple #[.slice a' (nextZ x st f).length cap', .int .i64 (nextE x st f)]) ∧ (nextZ x st f).length ≤ cap' ∧ Reads w' a' (nextZ x st f).length (ints (nextZ x st f)) ∧ Below w.heap.size w w' := by
  have hlo := hx.lo1
  have hhi := hx.hi2
  have HR := Lib.hid hr
  clear hr
  cases hf : inF x f with
  | false =>
    have hE : nextE x st f = 6 := by unfold nextE; rw [hf]; rfl
    have hZ : nextZ x st f = [] := by unfold nextZ; rw [if_neg (by rw [hE]; decide)]
    rw [hE, hZ]
    unfold inF at hf
    clear hE hZ
    go_enter Try.func43, Try.ntmps43
    go_wp2_with (go_at_call 33; refine (bWithin_any _ _ _ _).mono ?_; rintro e w' ⟨rfl, rfl⟩; rw [hf])
    go_ret2
    exact ⟨none, 0, rfl, Nat.le_refl _, .inl rfl, bAlloc (bSelf w) _⟩
  | true =>
    have hfl : -1000 ≤ f ∧ f ≤ 1000 := by unfold inF at hf; simp at hf; omega
    obtain ⟨hf1, hf2⟩ := hfl
    have HN := Lib.hid (fun W h => rNext_any x st a cap f W hx hs h hcap hf1 hf2)
    cases hi : inB x (nextV x st f) with
    | false =>
      have hE : nextE x st f = 22 := by unfold nextE; rw [hf, hi]; rfl
      have hZ : nextZ x st f = [] := by unfold nextZ; rw [if_neg (by rw [hE]; decide)]
      rw [hE, hZ]
      unfold inF at hf
      unfold NextPost at HN
      rw [hi] at HN
      clear hE hZ
      go_enter Try.func43, Try.ntmps43
      go_wp2_with (go_at_call 33; refine (bWithin_any _ _ _ _).mono ?_; rintro e w' ⟨rfl, rfl⟩; rw [hf])
      refine (HN.out _ (HR.out.alloc _)).mono ?_
      rintro e w1 ⟨a', cap', rfl, hc', hr', hb, -⟩
      have HB := Lib.hid (bThen (bAlloc (bSelf w) (.cells x.cells 25)) hb)
      clear hb hr'
      go_wp2_with fail
      go_ret2
      exact ⟨none, 0, rfl, Nat.le_refl _, .inl rfl, HB.out⟩
    | true =>
      have hE : nextE x st f = 0 := by unfold nextE; rw [hf, hi]; rfl
      have hZ : nextZ x st f = nextR st (nextV x st f) := by unfold nextZ; rw [if_pos hE]
      have hL : (nextR st (nextV x st f)).length = st.length := by
        have := hs.len; have := hx.dl1
        unfold nextR; simp; omega
      rw [hE, hZ, hL]
      unfold inF at hf
      unfold NextPost at HN
      rw [hi] at HN
      clear hE hZ
      go_enter Try.func43, Try.ntmps43
      go_wp2_with (go_at_call 33; refine (bWithin_any _ _ _ _).mono ?_; rintro e w' ⟨rfl, rfl⟩; rw [hf])
      refine (HN.out _ (HR.out.alloc _)).mono ?_
      rintro e w1 ⟨a', cap', rfl, hc', hr', hb, -⟩
      have HB := Lib.hid (bThen (bAlloc (bSelf w) (.cells x.cells 25)) hb)
      have HR2 := Lib.hid hr'
      clear hb hr'
      go_wp2_with fail
      go_ret2
      exact ⟨a', cap', rfl, hc', HR2.out, HB.out⟩

end Go.Proofs.Ytjieojkfpoiabaa
