/-
  Texts of this claim, in their build order: D5 E1.
-/
import Derived.Test.YtfdlhhinomjakaaHel17
import Derived.Test.YtfdlhhinomjakaaHel0

namespace Go.Proofs.Ytfdlhhinomjakaa
section
open Go.RowKit

theorem unl_zero {b : Bool} {k : Int} (hk : k ≠ 0) (h : unl b k = 0) : b = true := by
  unfold unl at h
  cases b with
  | true => rfl
  | false => exact absurd h hk
structure MsOk (ms : List Msg) (d u : Int) : Prop where
  len : ms.length ≤ 60
  tick : ∀ k, k < ms.length → 0 ≤ mA ms k ∧ mA ms k ≤ 1000000000000
  step : ∀ k, k < ms.length → mS ms k = k / 2 ∧ mK ms k = k % 2
  ord : ∀ k, k < ms.length → lastA ms k ≤ mA ms k
  d1 : 0 ≤ d
  d2 : d ≤ 100000
  u1 : 0 ≤ u
  u2 : u ≤ 1000000000000
  last : ms.length = 0 ∨ mA ms (ms.length - 1) ≤ u
theorem chkM_zero {ms : List Msg} (h : (chkM ms).2 = 0) : ms.length ≤ 60 ∧ ∀ k, k < ms.length → msE ms k = 0 := by
  unfold chkM at h
  by_cases h1 : 60 < ms.length
  · rw [if_pos h1] at h; simp at h
  · rw [if_neg h1] at h
    exact ⟨by omega, fun k hk => eachR_zero ms.length 0 h k (by omega) (by omega)⟩
theorem msE_zero {ms : List Msg} {k : Nat} (h : msE ms k = 0) : (0 ≤ mA ms k ∧ mA ms k ≤ 1000000000000) ∧ lastA ms k ≤ mA ms k ∧ mS ms k = k / 2 ∧ mK ms k = k % 2 := by
  have h0 := firstE_zero (show firstE [_, _, _, _] = 0 from h)
  have h2 := unl_zero (by decide) (h0 _ (List.mem_cons_of_mem _ (List.mem_cons_self ..)))
  have h3 := unl_zero (by decide) (h0 _ (List.mem_cons_of_mem _ (List.mem_cons_of_mem _ (List.mem_cons_self ..))))
  have h4 := unl_zero (by decide) (h0 _ (List.mem_cons_of_mem _ (List.mem_cons_of_mem _ (List.mem_cons_of_mem _ (List.mem_cons_self ..)))))
  simp only [Bool.and_eq_true, decide_eq_true_eq] at h2 h3 h4
  exact ⟨h2.2, h3, h4.2, h4.1⟩
theorem openE_zero {ms : List Msg} {d u : Int} (h : openE ms d u = 0) : MsOk ms d u := by
  have h0 := firstE_zero (show firstE [_, _, _] = 0 from h)
  have h1 := chkM_zero (h0 _ (List.mem_cons_self ..))
  have h2 := unl_zero (by decide) (h0 _ (List.mem_cons_of_mem _ (List.mem_cons_self ..)))
  have h3 := unl_zero (by decide) (h0 _ (List.mem_cons_of_mem _ (List.mem_cons_of_mem _ (List.mem_cons_self ..))))
  simp only [Bool.and_eq_true, Bool.or_eq_true, decide_eq_true_eq] at h2 h3
  exact ⟨h1.1, fun k hk => (msE_zero (h1.2 k hk)).1, fun k hk => (msE_zero (h1.2 k hk)).2.2, fun k hk => (msE_zero (h1.2 k hk)).2.1, h2.1.1, h2.1.2, h2.2.1, h2.2.2, h3⟩

/-- The late steps. -/
def lateL (ms : List Msg) (d u : Int) : List Int := (lateMs ms d u).map fun p => p.2.1

theorem lateMs_len (ms : List Msg) (d u : Int) : (lateMs ms d u).length ≤ (ms.length + 1) / 2 := by
  unfold lateMs lateJ
  rw [List.length_map]
  have := List.length_filter_le (isLate ms d u) (List.range ((ms.length + 1) / 2))
  simpa using this

set_option maxHeartbeats 1600000 in
set_option maxRecDepth 100000 in
theorem LateIn_ok (ms : List Msg) (a : Option Addr) (cap : Nat) (d u : Int) (w : World) (hlen : ms.length ≤ maxLen) (hcap : ms.length ≤ cap) (hr : Reads w a (ms.length * 3) (msgs ms)) (he : openE ms d u = 0) :
    Calls Try.prog 23 #[.slice a ms.length cap, .agg #[.int .i64 d, .int .i64 u]] w fun e w' => ∃ a' cap', e = .returned (.tuple #[.slice a' (lateL ms d u).length cap', .int .i64 0]) ∧ Reads w' a' (lateL ms d u).length (ints (lateL ms d u)) ∧ Below w.heap.size w w' := by
  have hne : (openE ms d u != 0) = false := by simpa using he
  have HM := zH (openE_zero he)
  have hM := HM.out
  have HLT := zH (fun (W : World) hr => late_any ms a cap d u W (by have := hM.len; omega) hcap hM.tick hM.d1 hM.d2 hM.u1 hM.u2 hr)
  have hll : (lateMs ms d u).length ≤ 100 := by have := lateMs_len ms d u; have := hM.len; omega
  unfold lateL
  obtain ⟨lm, hlm⟩ : ∃ lm, lateMs ms d u = lm := ⟨_, rfl⟩
  rw [hlm] at HLT hll ⊢
  clear hlm hM HM
  have hR := zH hr
  clear hr he
  go_enter Try.func23, Try.ntmps23
  go_wp2_with fail
  refine (openMessages_any ms a cap d u _ hlen (hR.out.alloc _)).mono ?_
  rintro e w1 ⟨rfl, hb⟩
  have K0 : Hid (Blk w1 w.heap.size #[.int .i64 d, .int .i64 u]) := zH ((Blk.new _ _ _).to hb)
  have hR1 := zH ((hR.out.alloc (.cells #[.int .i64 d, .int .i64 u] 56)).to hb)
  have HB := zH (bThen (bAlloc (bSelf w) _) hb)
  clear hb
  obtain ⟨-, k0, -⟩ := K0.out
  go_wp2_with fail
  refine (HLT.out w1 hR1.out).mono ?_
  rintro e w2 ⟨a2, cap2, rfl, hr2, hb2⟩
  have HB2 := zH (bThen HB.out hb2)
  have HR2 := zH hr2
  clear hr2 hb2 k0 hne hR1 hR K0 HB
  go_wp2_with fail
  go_loopw [7, 20] (fun v i wr => ∃ k : Nat, k ≤ lm.length ∧ i = .int .i64 k ∧ Hid (wr.ownsRow w2.heap.size 3 1 v k (((lm.map fun p => p.2.1).take k).map fun z => Value.int .i64 z)) ∧ Hid (Below w2.heap.size w2 wr)) (fun _ i _ => lm.length - (intOf i).toNat)
  case atStart => exact ⟨0, Nat.zero_le _, rfl, zH (World.ownsRow_nil _ _ _ _), zH (bSelf w2)⟩
  case round =>
    obtain ⟨k, hk, rfl, hrow, hbel⟩ := hrel
    by_cases hlt : k < lm.length
    · obtain ⟨b, off, rfl, hb, hc⟩ := HR2.out.at (k := k * 3) (by omega)
      have c0 : wr.cell? ⟨b, off + k * 3, none⟩ = some (.int .i64 (mK lm k)) := (hbel.out.cell (p := ⟨b, off + k * 3, none⟩) hb).trans (by rw [hc _ (by omega), msgs0])
      have c1 : wr.cell? ⟨b, off + k * 3 + 1, none⟩ = some (.int .i64 (mS lm k)) := (hbel.out.cell (p := ⟨b, off + k * 3 + 1, none⟩) hb).trans (by rw [Nat.add_assoc, hc _ (by omega), msgs1])
      have c2 : wr.cell? ⟨b, off + k * 3 + 2, none⟩ = some (.int .i64 (mA lm k)) := (hbel.out.cell (p := ⟨b, off + k * 3 + 2, none⟩) hb).trans (by rw [Nat.add_assoc, hc _ (by omega), msgs2])
      clear hc
      have hszr : w2.heap.size ≤ wr.heap.size := hbel.out.size
      have hbr : b < wr.heap.size := Nat.lt_of_lt_of_le hb hszr
      have HROW := zH ((hrow.out.alloc (.cells #[.int .i64 (mK lm k), .int .i64 (mS lm k), .int .i64 (mA lm k)] 99)).alloc (.cells #[.int .i64 (mS lm k)] 3))
      have HNN := zH (Blk.newAt (B := wr.heap.size + 1) (wr.alloc (.cells #[.int .i64 (mK lm k), .int .i64 (mS lm k), .int .i64 (mA lm k)] 99)) #[.int .i64 (mS lm k)] 3 (by simp)).news
      have hlo := zH hrow.out.lt
      go_wp2_with (at_builtin; refine wpList_app w2.heap.size rtInt rfl (.tmp 24) (.tmp 27) rfl _ _ _ rfl HROW.out ⟨wr.heap.size + 1, 0, none⟩ 1 1 [.int .i64 (mS lm k)] rfl rfl HNN.out (ones [mS lm k]) (by unfold maxLen; omega) (by omega) (by simp; omega) ?_; intro v' w4 hown' hgrow _ _; have HO := zH hown'; have HG := zH hgrow; clear hown' hgrow)
      go_roundw
      case rel =>
        refine ⟨k + 1, by omega, by go_num, zH ?_, zH ?_⟩
        · have e1 : (lm.map fun p => p.2.1)[k]'(by simpa using hlt) = mS lm k := by simp [mS, mg, List.getD_eq_getElem?_getD, hlt]
          rw [List.take_succ_eq_append_getElem (by simpa using hlt), List.map_append, e1]
          exact HO.out
        · exact ((hbel.out.alloc hszr _).alloc (by simp; omega) _).grown HG.out (by simp; omega) (fun k e => (hlo.out k e).1)
      case measure => simp [intOf]; omega
    · have : k = lm.length := by omega
      subst this
      go_wp2_with fail
      go_ret2
      have hrow' := hrow.out
      rw [List.take_of_length_le (by simp)] at hrow'
      obtain ⟨a3, c3, rfl, hrd⟩ := Reads.of_owns (zs := lm.map fun p => p.2.1) (by rw [List.length_map]; exact hrow')
      exact ⟨a3, c3, rfl, hrd, HB2.out.trans (hbel.out.mono HB2.out.size)⟩
end
section
set_option maxRecDepth 100000
set_option maxHeartbeats 800000
open Go.RowKit

theorem gcd_step {x y : Int} : Int.gcd y (x.tmod y) = Int.gcd x y := by
  unfold Int.gcd
  rw [Int.natAbs_tmod, Nat.gcd_comm x.natAbs, Nat.gcd_rec y.natAbs x.natAbs, Nat.gcd_comm]

theorem divisor_any (x y : Int) (w : World) (hx : x.natAbs ≤ 1000000000000000) (hy : y.natAbs ≤ 1000000000000000) :
    Calls Try.prog 72 #[.int .i64 x, .int .i64 y] w fun e w' => e = .returned (.int .i64 (Int.gcd x y : Nat)) ∧ Below w.heap.size w w' := by
  go_enter Try.func72, Try.ntmps72
  go_wp2_with fail
  go_loopw [0, 1] (fun p q wr => ∃ x' y' : Int, p = .int .i64 x' ∧ q = .int .i64 y' ∧ Hid (Int.gcd x' y' = Int.gcd x y) ∧ x'.natAbs ≤ 1000000000000000 ∧ y'.natAbs ≤ 1000000000000000 ∧ Hid (Below w.heap.size w wr)) (fun _ q _ => (intOf q).natAbs)
  case atStart => exact ⟨x, y, rfl, rfl, zH rfl, hx, hy, zH (bSelf w)⟩
  case round =>
    obtain ⟨x', y', rfl, rfl, hg, hx', hy', hb⟩ := hrel
    by_cases h0 : y' = 0
    · subst h0
      go_wp2_with fail
      all_goals
        go_ret
        refine ⟨ret_int ?_, hb.out⟩
        rw [← hg.out]
        simp only [Int.gcd_zero_right]
        omega
    · have h0' : (y' == 0) = false := by simpa using h0
      go_wp2_with fail
      refine wp_region_quiet_all (fun w' => Below (World.heap wr).size (wr) w') (by kernel_rfl) (by kernel_rfl) (Below.refl _ _).drew ?_
      refine WQ.out ?_
      repeat (first | (refine WQ_no (by rfl) ?_; (simp only [Act.put, zzT, zzO, zzS])) | (refine WQ_yes (by rfl) ?_; apply Exists.intro; refine ⟨fun w1 hb1 => ?_, ?_⟩; (focus ((have hb1 := zH hb1; go_simp); (try (go_bits; try go_simp)); (try (rw [if_pos (by omega)]; try go_simp)); (first | done | (with_reducible rfl) | exact rfl))); (simp only [Act.put, zzT, zzO, zzS])))
      refine WQ_nil ?_
      intro w1 hb1
      have hb2 := zH (bThen hb.out hb1)
      clear hb1
      have hm : (x'.tmod y').natAbs < y'.natAbs := by rw [Int.natAbs_tmod]; exact Nat.mod_lt _ (by omega)
      go_wp2_with fail
      go_roundw
      case rel => exact ⟨y', x'.tmod y', rfl, rfl, zH (gcd_step.trans hg.out), hy', by omega, hb2⟩
      case measure => exact hm

/-- A fraction in lowest terms. -/
def fr (n m : Int) : Int × Int := (n.tdiv (Int.gcd n m : Nat), m.tdiv (Int.gcd n m : Nat))
theorem tdivB {n g : Int} {B : Nat} (h : n.natAbs ≤ B) : (n.tdiv g).natAbs ≤ B := by
  rw [Int.natAbs_tdiv]; exact Nat.le_trans (Nat.div_le_self _ _) h
theorem fr_pos {n m : Int} (hm : 0 < m) : 0 < (fr n m).2 := by
  unfold fr
  have h1 : 0 < Int.gcd n m := Nat.pos_of_ne_zero (fun h => by have := (Int.gcd_eq_zero_iff.1 h).2; omega)
  have h2 : ((Int.gcd n m : Nat) : Int) ∣ m := Int.gcd_dvd_right ..
  obtain ⟨c, hc⟩ := h2
  have h3 : m.tdiv ((Int.gcd n m : Nat) : Int) = c := by
    conv => lhs; arg 1; rw [hc]
    exact Int.mul_tdiv_cancel_left _ (by omega)
  show 0 < m.tdiv ((Int.gcd n m : Nat) : Int)
  rw [h3]
  rcases Int.lt_or_le 0 c with h | h
  · exact h
  · have : ((Int.gcd n m : Nat) : Int) * c ≤ 0 := Int.mul_nonpos_of_nonneg_of_nonpos (by omega) h
    omega
theorem fr_bd1 {n m : Int} {B : Nat} (h : n.natAbs ≤ B) : (fr n m).1.natAbs ≤ B := tdivB h
theorem fr_bd2 {n m : Int} {B : Nat} (h : m.natAbs ≤ B) : (fr n m).2.natAbs ≤ B := tdivB h

theorem fraction_any (n m : Int) (w : World) (hn : n.natAbs ≤ 1000000000000000) (hm : 0 < m) (hm2 : m ≤ 1000000000000000) :
    Calls Try.prog 70 #[.int .i64 n, .int .i64 m] w fun e w' => e = .returned (.agg #[.int .i64 (fr n m).1, .int .i64 (fr n m).2]) ∧ Below w.heap.size w w' := by
  have h0 : 0 < Int.gcd n m := Nat.pos_of_ne_zero (fun h => by have := (Int.gcd_eq_zero_iff.1 h).2; omega)
  have h1 := @fr_bd1 n m _ hn
  have h2 := @fr_bd2 n m 1000000000000000 (by omega)
  have hD := zH (fun W => divisor_any n m W hn (by omega))
  unfold fr at h1 h2 ⊢
  dsimp only at h1 h2 ⊢
  obtain ⟨g, hg⟩ : ∃ g : Int, ((Int.gcd n m : Nat) : Int) = g := ⟨_, rfl⟩
  rw [hg] at h1 h2 hD ⊢
  have hg0 : 0 < g := by omega
  have hg1 : (g == 0) = false := by rw [beq_eq_false_iff_ne]; omega
  have hg2 : ¬ g = 0 := by omega
  clear hg h0
  go_enter Try.func70, Try.ntmps70
  go_wp2_with fail
  refine (hD.out _).mono ?_
  rintro e w1 ⟨rfl, hb⟩
  have K0 : Hid (Blk w1 w.heap.size #[.int .i64 0, .int .i64 0]) := zH ((Blk.new _ _ _).to hb)
  have HB := zH (bThen (bAlloc (bSelf w) _) hb)
  clear hb
  go_wp2_with fail
  refine wp_region_quiet_tail 7 (fun w' => Below (World.heap w1).size (w1) w') (by kernel_rfl) (by kernel_rfl) (Below.refl _ _).drew ?_
  simp only [List.take_succ_cons, List.take_zero, List.drop_succ_cons, List.drop_zero]
  refine WQ.out ?_
  repeat (first | (refine WQ_no (by rfl) ?_; (simp only [Act.put, zzT, zzO, zzS])) | (refine WQ_yes (by rfl) ?_; apply Exists.intro; refine ⟨fun w1 hb1 => ?_, ?_⟩; (focus ((have hb1 := zH hb1; go_simp); (try (go_bits; try go_simp)); (try (rw [if_pos (by omega)]; try go_simp)); (first | done | (with_reducible rfl) | exact rfl))); (simp only [Act.put, zzT, zzO, zzS])))
  refine WQ_nil ?_
  intro w1 hb1
  replace K0 := zH (K0.out.to hb1)
  replace HB := zH (bThen HB.out hb1)
  clear hb1
  obtain ⟨-, k0, f0⟩ := K0.out
  go_wp2_with fail
  have F := (K0.out.set 0 (.int .i64 (n.tdiv g))).set 1 (.int .i64 (m.tdiv g))
  have F0 := F.2.1 0
  have F1 := F.2.1 1
  clear F k0 f0
  refine bodyPost_ret (v := .agg #[.int .i64 (n.tdiv g), .int .i64 (m.tdiv g)]) ?_ rfl ⟨rfl, ?_⟩
  · simp [results, Try.results70, go_sem, F0, F1]
  · exact (HB.out.setCell (p := ⟨w.heap.size, 0, none⟩) (Nat.le_refl _) _).setCell (p := ⟨w.heap.size, 1, none⟩) (Nat.le_refl _) _

theorem sum_any (zs : List Int) (a : Option Addr) (cap : Nat) (w : World) (hlen : zs.length ≤ 1000) (hz : ∀ k, k < zs.length → -1000 ≤ gi zs k ∧ gi zs k ≤ 1000) (hr : Reads w a zs.length (ints zs)) :
    Calls Try.prog 71 #[.slice a zs.length cap] w fun e w' => e = .returned (.int .i64 zs.sum) ∧ w = w' := by
  have HR := zH hr
  have HZ := zH hz
  clear hr hz
  go_enter Try.func71, Try.ntmps71
  go_wp2_with fail
  go_loopw [3, 8] (fun s i wr => ∃ k : Nat, ∃ t : Int, k ≤ zs.length ∧ i = .int .i64 k ∧ s = .int .i64 t ∧ Hid (t = (zs.take k).sum) ∧ -(1000 * (k : Int)) ≤ t ∧ t ≤ 1000 * (k : Int) ∧ Hid (w = wr)) (fun _ i _ => zs.length - (intOf i).toNat)
  case atStart => exact ⟨0, 0, Nat.zero_le _, rfl, rfl, zH rfl, by omega, by omega, zH rfl⟩
  case round =>
    obtain ⟨k, t, hk, rfl, rfl, ht, ht1, ht2, hw⟩ := hrel
    by_cases hlt : k < zs.length
    · obtain ⟨b, off, rfl, hb, hc⟩ := HR.out.at hlt
      have h1 : wr.cell? ⟨b, off + k, none⟩ = some (.int .i64 (gi zs k)) := by rw [← hw.out]; exact hc k hlt
      have h2 := HZ.out k hlt
      clear hc
      go_wp2_with fail
      go_roundw
      case rel =>
        refine ⟨k + 1, t + gi zs k, by omega, by go_num, rfl, zH ?_, by omega, by omega, hw⟩
        rw [gi_take zs k hlt, List.sum_append, ht.out]; simp
      case measure => simp [intOf]; omega
    · have : k = zs.length := by omega
      subst this
      go_wp2_with fail
      go_ret
      refine ⟨ret_int ?_, hw.out⟩
      rw [ht.out, List.take_length]
end
end Go.Proofs.Ytfdlhhinomjakaa
