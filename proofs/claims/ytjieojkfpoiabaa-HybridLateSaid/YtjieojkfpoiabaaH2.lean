/-
  The reference's ClockErr, Late, Held and Count.
-/
import Derived.Test.YtjieojkfpoiabaaH1
namespace Go.Proofs.Ytjieojkfpoiabaa
open Go.RowKit

def clkE (ms : List Msg) (d u : Int) : Int := firstE [unl (decide (0 ≤ d) && decide (d ≤ 100000) && (decide (0 ≤ u) && decide (u ≤ 1000000000000))) 2, unl (decide (ms.length = 0) || decide (mA ms (ms.length - 1) ≤ u)) 22]

set_option maxHeartbeats 800000 in
set_option maxRecDepth 100000 in
theorem ClockErr_any (ms : List Msg) (a : Option Addr) (cap : Nat) (d u : Int) (w : World) (hlen : ms.length ≤ maxLen) (hr : Reads w a (ms.length * 3) (msgs ms)) :
    Calls Try.prog 28 #[.slice a ms.length cap, .agg #[.int .i64 d, .int .i64 u]] w fun e w' => e = .returned (.int .i64 (clkE ms d u)) ∧ Below w.heap.size w w' := by
  unfold maxLen at hlen
  have HR := Lib.hid hr
  have HE : Hid (clkE ms d u = firstE [unl (decide (0 ≤ d) && decide (d ≤ 100000) && (decide (0 ≤ u) && decide (u ≤ 1000000000000))) 2, unl (decide (ms.length = 0) || decide (mA ms (ms.length - 1) ≤ u)) 22]) := Lib.hid rfl
  obtain ⟨ce, hce⟩ : ∃ ce, clkE ms d u = ce := ⟨_, rfl⟩
  rw [hce] at HE ⊢
  obtain ⟨m, hm⟩ : ∃ m, ms.length = m := ⟨_, rfl⟩
  rw [hm] at HR HE hlen ⊢
  clear hr hce hm
  cases hd : (decide (0 ≤ d) && decide (d ≤ 100000))
  · have HD := Lib.hid hd
    rw [hd] at HE
    clear hd
    go_enter Try.func28, Try.ntmps28
    go_wp2_with (go_at_call 33; refine (bWithin_any _ _ _ _).mono ?_; rintro e w' ⟨rfl, rfl⟩; rw [HD.out])
    go_ret
    exact ⟨ret_int (by rw [HE.out]; rfl), bAlloc (bSelf w) _⟩
  · have HD := Lib.hid hd
    rw [hd] at HE
    clear hd
    cases hu : (decide (0 ≤ u) && decide (u ≤ 1000000000000))
    · have HU := Lib.hid hu
      rw [hu] at HE
      clear hu
      go_enter Try.func28, Try.ntmps28
      go_wp2_with (first | (go_at_call 33; refine (bWithin_any _ _ _ _).mono ?_; rintro e w' ⟨rfl, rfl⟩; rw [HD.out]) | (go_at_call 86; refine (bIsTick_any _ _).mono ?_; rintro e w' ⟨rfl, rfl⟩; rw [HU.out]))
      go_ret
      exact ⟨ret_int (by rw [HE.out]; rfl), bAlloc (bSelf w) _⟩
    · have HU := Lib.hid hu
      rw [hu] at HE
      clear hu
      rcases m with _ | n
      · go_enter Try.func28, Try.ntmps28
        go_wp2_with (first | (go_at_call 33; refine (bWithin_any _ _ _ _).mono ?_; rintro e w' ⟨rfl, rfl⟩; rw [HD.out]) | (go_at_call 86; refine (bIsTick_any _ _).mono ?_; rintro e w' ⟨rfl, rfl⟩; rw [HU.out]))
        obtain ⟨W, hW⟩ : ∃ W, w.alloc (.cells #[.int .i64 d, .int .i64 u] 45) = W := ⟨_, rfl⟩
        rw [hW]
        have K0 : Hid (Blk W w.heap.size #[.int .i64 d, .int .i64 u]) := by subst hW; exact Lib.hid (Blk.new _ _ _)
        have HB : Hid (Below w.heap.size w W) := by subst hW; exact Lib.hid (bAlloc (bSelf w) _)
        clear hW
        refine wp_region_quiet_all (fun w' => Below (World.heap W).size (W) w') (by kernel_rfl) (by kernel_rfl) (Below.refl _ _).drew ?_
        refine WQ.out ?_
        repeat (first | (refine WQ_no (by rfl) ?_; (simp only [Act.put, List.setIfInBounds_toArray, List.set_cons_zero, List.set_cons_succ])) | (refine WQ_yes (by rfl) ?_; apply Exists.intro; refine ⟨fun w1 hb1 => ?_, ?_⟩; (focus (((obtain ⟨-, k0, -⟩ := K0.out.to hb1); have hb1 := Lib.hid hb1; go_simp); (try (go_bits; try go_simp)); (try (rw [if_pos (by omega)]; try go_simp)); (first | done | (fail) | (with_reducible rfl) | exact rfl))); (simp only [Act.put, List.setIfInBounds_toArray, List.set_cons_zero, List.set_cons_succ])))
        refine WQ_nil ?_
        intro w1 hb1
        go_wp2_with fail
        go_ret
        exact ⟨ret_int (by rw [HE.out]; rfl), bThen HB.out hb1⟩
      · obtain ⟨b, off, rfl, hb, hc⟩ := HR.out.at (k := n * 3) (by omega)
        obtain ⟨A, hA⟩ : ∃ A, mA ms n = A := ⟨_, rfl⟩
        have c9 : Hid (w.cell? ⟨b, off + n * 3 + 2, none⟩ = some (.int .i64 A)) := Lib.hid (by rw [Nat.add_assoc, hc _ (by omega), msgs2, hA])
        rw [show n + 1 - 1 = n from rfl, hA] at HE
        clear hc hA
        by_cases ho : A ≤ u
        all_goals
          go_enter Try.func28, Try.ntmps28
          go_wp2_with (first | (go_at_call 33; refine (bWithin_any _ _ _ _).mono ?_; rintro e w' ⟨rfl, rfl⟩; rw [HD.out]) | (go_at_call 86; refine (bIsTick_any _ _).mono ?_; rintro e w' ⟨rfl, rfl⟩; rw [HU.out]))
          obtain ⟨W, hW⟩ : ∃ W, w.alloc (.cells #[.int .i64 d, .int .i64 u] 45) = W := ⟨_, rfl⟩
          rw [hW]
          have K0 : Hid (Blk W w.heap.size #[.int .i64 d, .int .i64 u]) := by subst hW; exact Lib.hid (Blk.new _ _ _)
          have HB : Hid (Below w.heap.size w W) := by subst hW; exact Lib.hid (bAlloc (bSelf w) _)
          clear hW
          refine wp_region_quiet_all (fun w' => Below (World.heap W).size (W) w') (by kernel_rfl) (by kernel_rfl) (Below.refl _ _).drew ?_
          refine WQ.out ?_
          repeat (first | (refine WQ_no (by rfl) ?_; (simp only [Act.put, List.setIfInBounds_toArray, List.set_cons_zero, List.set_cons_succ])) | (refine WQ_yes (by rfl) ?_; apply Exists.intro; refine ⟨fun w1 hb1 => ?_, ?_⟩; (focus (((obtain ⟨-, k0, -⟩ := K0.out.to hb1; have k9 := (hb1.cell (p := ⟨b, off + n * 3 + 2, none⟩) (Nat.lt_of_lt_of_le hb HB.out.size)).trans ((HB.out.cell (p := ⟨b, off + n * 3 + 2, none⟩) hb).trans c9.out)); have hb1 := Lib.hid hb1; go_simp); (try (go_bits; try go_simp)); (try (rw [if_pos (by omega)]; try go_simp)); (first | done | (fail) | (with_reducible rfl) | exact rfl))); (simp only [Act.put, List.setIfInBounds_toArray, List.set_cons_zero, List.set_cons_succ])))
          refine WQ_nil ?_
          intro w1 hb1
          go_wp2_with fail
          go_ret
        · exact ⟨ret_int (by rw [HE.out, decide_eq_true ho, Bool.or_true]; rfl), bThen HB.out hb1⟩
        · exact ⟨ret_int (by rw [HE.out, decide_eq_false (by omega : ¬ n + 1 = 0), decide_eq_false (by omega : ¬ A ≤ u)]; rfl), bThen HB.out hb1⟩

/-- The late steps, by their numbers. -/
def lateN (ms : List Msg) (d u : Int) : List Int := (lateJ ms d u).map fun j : Nat => (j : Int)
def lateP (ms : List Msg) (d u : Int) (j : Nat) : List Int := ((List.range j).filter (isLate ms d u)).map fun j : Nat => (j : Int)
theorem lateP_succ (ms : List Msg) (d u : Int) (j : Nat) : lateP ms d u (j + 1) = lateP ms d u j ++ (if isLate ms d u j then [(j : Int)] else []) := by
  unfold lateP
  rw [List.range_succ, List.filter_append, List.map_append]
  congr 1
  cases h : isLate ms d u j <;> simp [h]
theorem lateP_len (ms : List Msg) (d u : Int) (j : Nat) : (lateP ms d u j).length ≤ j := by
  unfold lateP
  rw [List.length_map]
  have := List.length_filter_le (isLate ms d u) (List.range j)
  simpa using this

set_option maxHeartbeats 1600000 in
set_option maxRecDepth 100000 in
theorem rLate_any (ms : List Msg) (a : Option Addr) (cap : Nat) (d u : Int) (w : World) (hok : MsOk ms d u) (hr : Reads w a (ms.length * 3) (msgs ms)) :
    Calls Try.prog 30 #[.slice a ms.length cap, .agg #[.int .i64 d, .int .i64 u]] w fun e w' => ∃ a' cap', e = .returned (.slice a' (lateN ms d u).length cap') ∧ Reads w' a' (lateN ms d u).length (ints (lateN ms d u)) ∧ Below w.heap.size w w' := by
  have HOK := Lib.hid hok
  have HR := Lib.hid hr
  have hlen := hok.len
  have hd1 := hok.d1
  have hd2 := hok.d2
  have hu1 := hok.u1
  have hu2 := hok.u2
  clear hok hr
  go_enter Try.func30, Try.ntmps30
  go_wp2_with fail
  obtain ⟨W, hW⟩ : ∃ W, w.alloc (.cells #[.int .i64 d, .int .i64 u] 45) = W := ⟨_, rfl⟩
  rw [hW]
  have K0 : Hid (Blk W w.heap.size #[.int .i64 d, .int .i64 u]) := by subst hW; exact Lib.hid (Blk.new _ _ _)
  have HB : Hid (Below w.heap.size w W) := by subst hW; exact Lib.hid (bAlloc (bSelf w) _)
  have HRW : Hid (Reads W a (ms.length * 3) (msgs ms)) := by subst hW; exact Lib.hid (HR.out.alloc _)
  clear hW
  go_loopw [5, 6] (fun v i wr => ∃ i' j : Nat, i' ≤ ms.length + 1 ∧ 2 * j = i' ∧ i = .int .i64 i' ∧ Hid (wr.ownsRow W.heap.size 3 1 v (lateP ms d u j).length ((lateP ms d u j).map fun z => Value.int .i64 z)) ∧ Hid (Below W.heap.size W wr)) (fun _ i _ => ms.length + 2 - (intOf i).toNat)
  case atStart => exact ⟨0, 0, by omega, rfl, rfl, Lib.hid (World.ownsRow_nil _ _ _ _), Lib.hid (bSelf W)⟩
  case round =>
    obtain ⟨i, j, hi, hij, rfl, hrow, hbel⟩ := hrel
    by_cases hlt : i < ms.length
    · obtain ⟨b, off, rfl, hb, hc⟩ := HRW.out.at (k := i * 3) (by omega)
      obtain ⟨A0, hA⟩ : ∃ A0, mA ms i = A0 := ⟨_, rfl⟩
      have hA0 := HOK.out.tick i hlt
      rw [hA] at hA0
      have c2 : Hid (wr.cell? ⟨b, off + i * 3 + 2, none⟩ = some (.int .i64 A0)) := Lib.hid ((hbel.out.cell (p := ⟨b, off + i * 3 + 2, none⟩) hb).trans (by rw [Nat.add_assoc, hc _ (by omega), msgs2, hA]))
      obtain ⟨e0, he0⟩ : ∃ e0, endA ms u j = e0 := ⟨_, rfl⟩
      have hcase : (i + 1 < ms.length ∧ Hid (wr.cell? ⟨b, off + (i + 1) * 3 + 2, none⟩ = some (.int .i64 e0)) ∧ 0 ≤ e0 ∧ e0 ≤ 1000000000000) ∨ (¬ i + 1 < ms.length ∧ e0 = u) := by
        by_cases h : i + 1 < ms.length
        · refine .inl ⟨h, Lib.hid ((hbel.out.cell (p := ⟨b, off + (i + 1) * 3 + 2, none⟩) hb).trans ?_), ?_⟩
          · rw [Nat.add_assoc, hc _ (by omega), msgs2, ← he0]; unfold endA; rw [if_pos (by omega), hij]
          · rw [← he0]; unfold endA; rw [if_pos (by omega), hij]; exact HOK.out.tick _ h
        · refine .inr ⟨h, ?_⟩
          rw [← he0]; unfold endA; rw [if_neg (by omega)]
      have hla : isLate ms d u j = decide (d < e0 - A0) := by unfold isLate; rw [he0, hij, hA]
      have HP := Lib.hid (lateP_succ ms d u j)
      have hpl := lateP_len ms d u j
      have hwr : W.heap.size ≤ wr.heap.size := hbel.out.size
      have hbr : b < wr.heap.size := Nat.lt_of_lt_of_le hb hwr
      have K1 := Lib.hid (K0.out.to hbel.out)
      have hj2 : (i : Int) / 2 = j := by omega
      rw [hla] at HP
      clear hc hA he0 hla
      rcases hcase with ⟨hn, c5, he1, he2⟩ | ⟨hn, rfl⟩
      · obtain ⟨-, k1, -⟩ := K1.out
        have c5' := c5.out
        by_cases hl : d < e0 - A0
        · go_wp2_with fail
          clear k1 c5'
          refine wp_region_quiet_all (fun w' => Below (World.heap wr).size (wr) w') (by kernel_rfl) (by kernel_rfl) (Below.refl _ _).drew ?_
          refine WQ.out ?_
          repeat (first | (refine WQ_no (by rfl) ?_; (simp only [Act.put, List.setIfInBounds_toArray, List.set_cons_zero, List.set_cons_succ])) | (refine WQ_yes (by rfl) ?_; apply Exists.intro; refine ⟨fun w1 hb1 => ?_, ?_⟩; (focus (((obtain ⟨-, k0, -⟩ := K1.out.to hb1; have k2 := (hb1.cell (p := ⟨b, off + i * 3 + 2, none⟩) hbr).trans c2.out); have hb1 := Lib.hid hb1; go_simp); (try (go_bits; try go_simp)); (try (rw [if_pos (by omega)]; try go_simp)); (first | done | (fail) | (with_reducible rfl) | exact rfl))); (simp only [Act.put, List.setIfInBounds_toArray, List.set_cons_zero, List.set_cons_succ])))
          refine WQ_nil ?_
          intro w1 hb1
          have hbel2 := Lib.hid (hbel.out.trans (hb1.mono hwr))
          have hrow2 := Lib.hid (owns_to hrow.out hb1)
          have hw12 : W.heap.size ≤ w1.heap.size := Nat.le_trans hwr hb1.size
          clear hb1
          have HROW := Lib.hid (hrow2.out.alloc (.cells #[.int .i64 j] 3))
          have HNN := Lib.hid (Blk.new w1 #[.int .i64 j] 3).news
          have hlo := Lib.hid hrow2.out.lt
          go_wp2_with (at_builtin; refine wpList_app W.heap.size rtInt rfl (.tmp 37) (.tmp 40) rfl _ _ _ rfl HROW.out ⟨w1.heap.size, 0, none⟩ 1 1 [.int .i64 j] rfl rfl HNN.out (ones [(j : Int)]) (by unfold maxLen; omega) (by omega) (by simp; omega) ?_; intro v' w4 hown' hgrow _ _; have HO := Lib.hid hown'; have HG := Lib.hid hgrow; clear hown' hgrow)
          go_roundw
          case rel =>
            refine ⟨i + 2, j + 1, by omega, by omega, by go_num, Lib.hid ?_, Lib.hid ?_⟩
            · rw [HP.out, decide_eq_true hl, if_pos rfl, List.length_append, List.map_append]
              exact HO.out
            · exact (hbel2.out.alloc hw12 _).grown HG.out (by simp; omega) (fun k e => (hlo.out k e).1)
          case measure => simp [intOf]; omega
        · go_wp2_with fail
          clear k1 c5'
          refine wp_region_quiet_all (fun w' => Below (World.heap wr).size (wr) w') (by kernel_rfl) (by kernel_rfl) (Below.refl _ _).drew ?_
          refine WQ.out ?_
          repeat (first | (refine WQ_no (by rfl) ?_; (simp only [Act.put, List.setIfInBounds_toArray, List.set_cons_zero, List.set_cons_succ])) | (refine WQ_yes (by rfl) ?_; apply Exists.intro; refine ⟨fun w1 hb1 => ?_, ?_⟩; (focus (((obtain ⟨-, k0, -⟩ := K1.out.to hb1; have k2 := (hb1.cell (p := ⟨b, off + i * 3 + 2, none⟩) hbr).trans c2.out); have hb1 := Lib.hid hb1; go_simp); (try (go_bits; try go_simp)); (try (rw [if_pos (by omega)]; try go_simp)); (first | done | (fail) | (with_reducible rfl) | exact rfl))); (simp only [Act.put, List.setIfInBounds_toArray, List.set_cons_zero, List.set_cons_succ])))
          refine WQ_nil ?_
          intro w1 hb1
          have hbel2 := Lib.hid (hbel.out.trans (hb1.mono hwr))
          have hrow2 := Lib.hid (owns_to hrow.out hb1)
          have hw12 : W.heap.size ≤ w1.heap.size := Nat.le_trans hwr hb1.size
          clear hb1
          go_wp2_with fail
          go_roundw
          case rel =>
            refine ⟨i + 2, j + 1, by omega, by omega, by go_num, Lib.hid ?_, hbel2⟩
            rw [HP.out, decide_eq_false (by omega), if_neg (by simp), List.append_nil]
            exact hrow2.out
          case measure => simp [intOf]; omega
      · obtain ⟨-, k1, -⟩ := K1.out
        by_cases hl : d < e0 - A0
        · go_wp2_with fail
          clear k1
          refine wp_region_quiet_all (fun w' => Below (World.heap wr).size (wr) w') (by kernel_rfl) (by kernel_rfl) (Below.refl _ _).drew ?_
          refine WQ.out ?_
          repeat (first | (refine WQ_no (by rfl) ?_; (simp only [Act.put, List.setIfInBounds_toArray, List.set_cons_zero, List.set_cons_succ])) | (refine WQ_yes (by rfl) ?_; apply Exists.intro; refine ⟨fun w1 hb1 => ?_, ?_⟩; (focus (((obtain ⟨-, k0, -⟩ := K1.out.to hb1; have k2 := (hb1.cell (p := ⟨b, off + i * 3 + 2, none⟩) hbr).trans c2.out); have hb1 := Lib.hid hb1; go_simp); (try (go_bits; try go_simp)); (try (rw [if_pos (by omega)]; try go_simp)); (first | done | (fail) | (with_reducible rfl) | exact rfl))); (simp only [Act.put, List.setIfInBounds_toArray, List.set_cons_zero, List.set_cons_succ])))
          refine WQ_nil ?_
          intro w1 hb1
          have hbel2 := Lib.hid (hbel.out.trans (hb1.mono hwr))
          have hrow2 := Lib.hid (owns_to hrow.out hb1)
          have hw12 : W.heap.size ≤ w1.heap.size := Nat.le_trans hwr hb1.size
          clear hb1
          have HROW := Lib.hid (hrow2.out.alloc (.cells #[.int .i64 j] 3))
          have HNN := Lib.hid (Blk.new w1 #[.int .i64 j] 3).news
          have hlo := Lib.hid hrow2.out.lt
          go_wp2_with (at_builtin; refine wpList_app W.heap.size rtInt rfl (.tmp 37) (.tmp 40) rfl _ _ _ rfl HROW.out ⟨w1.heap.size, 0, none⟩ 1 1 [.int .i64 j] rfl rfl HNN.out (ones [(j : Int)]) (by unfold maxLen; omega) (by omega) (by simp; omega) ?_; intro v' w4 hown' hgrow _ _; have HO := Lib.hid hown'; have HG := Lib.hid hgrow; clear hown' hgrow)
          go_roundw
          case rel =>
            refine ⟨i + 2, j + 1, by omega, by omega, by go_num, Lib.hid ?_, Lib.hid ?_⟩
            · rw [HP.out, decide_eq_true hl, if_pos rfl, List.length_append, List.map_append]
              exact HO.out
            · exact (hbel2.out.alloc hw12 _).grown HG.out (by simp; omega) (fun k e => (hlo.out k e).1)
          case measure => simp [intOf]; omega
        · go_wp2_with fail
          clear k1
          refine wp_region_quiet_all (fun w' => Below (World.heap wr).size (wr) w') (by kernel_rfl) (by kernel_rfl) (Below.refl _ _).drew ?_
          refine WQ.out ?_
          repeat (first | (refine WQ_no (by rfl) ?_; (simp only [Act.put, List.setIfInBounds_toArray, List.set_cons_zero, List.set_cons_succ])) | (refine WQ_yes (by rfl) ?_; apply Exists.intro; refine ⟨fun w1 hb1 => ?_, ?_⟩; (focus (((obtain ⟨-, k0, -⟩ := K1.out.to hb1; have k2 := (hb1.cell (p := ⟨b, off + i * 3 + 2, none⟩) hbr).trans c2.out); have hb1 := Lib.hid hb1; go_simp); (try (go_bits; try go_simp)); (try (rw [if_pos (by omega)]; try go_simp)); (first | done | (fail) | (with_reducible rfl) | exact rfl))); (simp only [Act.put, List.setIfInBounds_toArray, List.set_cons_zero, List.set_cons_succ])))
          refine WQ_nil ?_
          intro w1 hb1
          have hbel2 := Lib.hid (hbel.out.trans (hb1.mono hwr))
          have hrow2 := Lib.hid (owns_to hrow.out hb1)
          have hw12 : W.heap.size ≤ w1.heap.size := Nat.le_trans hwr hb1.size
          clear hb1
          go_wp2_with fail
          go_roundw
          case rel =>
            refine ⟨i + 2, j + 1, by omega, by omega, by go_num, Lib.hid ?_, hbel2⟩
            rw [HP.out, decide_eq_false (by omega), if_neg (by simp), List.append_nil]
            exact hrow2.out
          case measure => simp [intOf]; omega
    · have hj : j = (ms.length + 1) / 2 := by omega
      go_wp2_with fail
      go_ret
      have e1 : lateP ms d u j = lateN ms d u := by rw [hj]; rfl
      have hrow' := hrow.out
      rw [e1] at hrow'
      obtain ⟨a3, c3, rfl, hrd⟩ := Reads.of_owns hrow'
      exact ⟨a3, c3, rfl, hrd, HB.out.trans (hbel.out.mono HB.out.size)⟩

end Go.Proofs.Ytjieojkfpoiabaa
