/-
  Texts of this claim, in their build order: D5 E1 E2.
-/
import Derived.Test.YtmofgejoogikfaaTop8
import Derived.Test.YtmofgejoogikfaaTop9
import Derived.Test.YtmofgejoogikfaaTop5

/-
  LateIn, HeldAt and CountIn of package hybrid.
-/
namespace Go.Proofs.Ytmofgejoogikfaa
open Go.RowKit

theorem unl_zero {b : Bool} {k : Int} (hk : k ≠ 0) (h : unl b k = 0) : b = true := by
  unfold unl at h
  cases b with
  | true => rfl
  | false => exact absurd h hk
end Go.Proofs.Ytmofgejoogikfaa

/-
  divisor, fraction and sum of package hybrid.
-/
namespace Go.Proofs.Ytmofgejoogikfaa
open Go.RowKit

theorem gcd_step {x y : Int} : Int.gcd y (x.tmod y) = Int.gcd x y := by
  unfold Int.gcd
  rw [Int.natAbs_tmod, Nat.gcd_comm x.natAbs, Nat.gcd_rec y.natAbs x.natAbs, Nat.gcd_comm]

set_option maxHeartbeats 800000 in
set_option maxRecDepth 100000 in
theorem divisor_any (x y : Int) (w : World) (hx : x.natAbs ≤ 1000000000000000) (hy : y.natAbs ≤ 1000000000000000) :
    Calls Try.prog 71 #[.int .i64 x, .int .i64 y] w fun e w' => e = .returned (.int .i64 (Int.gcd x y : Nat)) ∧ Below w.heap.size w w' := by
  go_enter Try.func71, Try.ntmps71
  go_wp2_with fail
  go_loopw [0, 1] (fun p q wr => ∃ x' y' : Int, p = .int .i64 x' ∧ q = .int .i64 y' ∧ Hid (Int.gcd x' y' = Int.gcd x y) ∧ x'.natAbs ≤ 1000000000000000 ∧ y'.natAbs ≤ 1000000000000000 ∧ Hid (Below w.heap.size w wr)) (fun _ q _ => (intOf q).natAbs)
  case atStart => exact ⟨x, y, rfl, rfl, Lib.hid rfl, hx, hy, Lib.hid (bSelf w)⟩
  case round =>
    obtain ⟨x', y', rfl, rfl, hg, hx', hy', hb⟩ := hrel
    by_cases h0 : y' = 0
    · subst h0
      go_wp2_with fail
      all_goals
        go_ret
        refine ⟨ret_int ?_, hb.out⟩
        rw [← hg.out]
        simp only [Int.gcd_zero_right]
        omega
    · have h0' : (y' == 0) = false := by simpa using h0
      go_wp2_with fail
      refine wp_region_quiet_all (fun w' => Below (World.heap wr).size (wr) w') (by kernel_rfl) (by kernel_rfl) (Below.refl _ _).drew ?_
      refine WQ.out ?_
      repeat (first | (refine WQ_no (by rfl) ?_; (simp only [Act.put, List.setIfInBounds_toArray, List.set_cons_zero, List.set_cons_succ])) | (refine WQ_yes (by rfl) ?_; apply Exists.intro; refine ⟨fun w1 hb1 => ?_, ?_⟩; (focus ((skip; have hb1 := Lib.hid hb1; go_simp); (try (go_bits; try go_simp)); (try (rw [if_pos (by omega)]; try go_simp)); (first | done | (fail) | (with_reducible rfl) | exact rfl))); (simp only [Act.put, List.setIfInBounds_toArray, List.set_cons_zero, List.set_cons_succ])))
      refine WQ_nil ?_
      intro w1 hb1
      have hb2 := Lib.hid (bThen hb.out hb1)
      clear hb1
      have hm : (x'.tmod y').natAbs < y'.natAbs := by rw [Int.natAbs_tmod]; exact Nat.mod_lt _ (by omega)
      go_wp2_with fail
      go_roundw
      case rel => exact ⟨y', x'.tmod y', rfl, rfl, Lib.hid (gcd_step.trans hg.out), hy', by omega, hb2⟩
      case measure => exact hm

/-- A fraction in lowest terms. -/
def fr (n m : Int) : Int × Int := (n.tdiv (Int.gcd n m : Nat), m.tdiv (Int.gcd n m : Nat))
theorem tdivB {n g : Int} {B : Nat} (h : n.natAbs ≤ B) : (n.tdiv g).natAbs ≤ B := by
  rw [Int.natAbs_tdiv]; exact Nat.le_trans (Nat.div_le_self _ _) h
theorem fr_pos {n m : Int} (hm : 0 < m) : 0 < (fr n m).2 := by
  unfold fr
  have h1 : 0 < Int.gcd n m := Nat.pos_of_ne_zero (fun h => by have := (Int.gcd_eq_zero_iff.1 h).2; omega)
  have h2 : ((Int.gcd n m : Nat) : Int) ∣ m := Int.gcd_dvd_right ..
  obtain ⟨c, hc⟩ := h2
  have h3 : m.tdiv ((Int.gcd n m : Nat) : Int) = c := by
    conv => lhs; arg 1; rw [hc]
    exact Int.mul_tdiv_cancel_left _ (by omega)
  show 0 < m.tdiv ((Int.gcd n m : Nat) : Int)
  rw [h3]
  rcases Int.lt_or_le 0 c with h | h
  · exact h
  · have : ((Int.gcd n m : Nat) : Int) * c ≤ 0 := Int.mul_nonpos_of_nonneg_of_nonpos (by omega) h
    omega
theorem fr_bd1 {n m : Int} {B : Nat} (h : n.natAbs ≤ B) : (fr n m).1.natAbs ≤ B := tdivB h
theorem fr_bd2 {n m : Int} {B : Nat} (h : m.natAbs ≤ B) : (fr n m).2.natAbs ≤ B := tdivB h

set_option maxHeartbeats 800000 in
set_option maxRecDepth 100000 in
theorem fraction_any (n m : Int) (w : World) (hn : n.natAbs ≤ 1000000000000000) (hm : 0 < m) (hm2 : m ≤ 1000000000000000) :
    Calls Try.prog 76 #[.int .i64 n, .int .i64 m] w fun e w' => e = .returned (.agg #[.int .i64 (fr n m).1, .int .i64 (fr n m).2]) ∧ Below w.heap.size w w' := by
  have h0 : 0 < Int.gcd n m := Nat.pos_of_ne_zero (fun h => by have := (Int.gcd_eq_zero_iff.1 h).2; omega)
  have h1 := @fr_bd1 n m _ hn
  have h2 := @fr_bd2 n m 1000000000000000 (by omega)
  have hD := Lib.hid (fun W => divisor_any n m W hn (by omega))
  unfold fr at h1 h2 ⊢
  dsimp only at h1 h2 ⊢
  obtain ⟨g, hg⟩ : ∃ g : Int, ((Int.gcd n m : Nat) : Int) = g := ⟨_, rfl⟩
  rw [hg] at h1 h2 hD ⊢
  have hg0 : 0 < g := by omega
  have hg1 : (g == 0) = false := by rw [beq_eq_false_iff_ne]; omega
  have hg2 : ¬ g = 0 := by omega
  clear hg h0
  go_enter Try.func76, Try.ntmps76
  go_wp2_with fail
  refine (hD.out _).mono ?_
  rintro e w1 ⟨rfl, hb⟩
  have K0 : Hid (Blk w1 w.heap.size #[.int .i64 0, .int .i64 0]) := Lib.hid ((Blk.new _ _ _).to hb)
  have HB := Lib.hid (bThen (bAlloc (bSelf w) _) hb)
  clear hb
  go_wp2_with fail
  refine wp_region_quiet_tail 7 (fun w' => Below (World.heap w1).size (w1) w') (by kernel_rfl) (by kernel_rfl) (Below.refl _ _).drew ?_
  simp only [List.take_succ_cons, List.take_zero, List.drop_succ_cons, List.drop_zero]
  refine WQ.out ?_
  repeat (first | (refine WQ_no (by rfl) ?_; (simp only [Act.put, List.setIfInBounds_toArray, List.set_cons_zero, List.set_cons_succ])) | (refine WQ_yes (by rfl) ?_; apply Exists.intro; refine ⟨fun w1 hb1 => ?_, ?_⟩; (focus ((skip; have hb1 := Lib.hid hb1; go_simp); (try (go_bits; try go_simp)); (try (rw [if_pos (by omega)]; try go_simp)); (first | done | (fail) | (with_reducible rfl) | exact rfl))); (simp only [Act.put, List.setIfInBounds_toArray, List.set_cons_zero, List.set_cons_succ])))
  refine WQ_nil ?_
  intro w1 hb1
  replace K0 := Lib.hid (K0.out.to hb1)
  replace HB := Lib.hid (bThen HB.out hb1)
  clear hb1
  obtain ⟨-, k0, f0⟩ := K0.out
  go_wp2_with fail
  have F := (K0.out.set 0 (.int .i64 (n.tdiv g))).set 1 (.int .i64 (m.tdiv g))
  have F0 := F.2.1 0
  have F1 := F.2.1 1
  clear F k0 f0
  refine bodyPost_ret (v := .agg #[.int .i64 (n.tdiv g), .int .i64 (m.tdiv g)]) ?_ rfl ⟨rfl, ?_⟩
  · simp [results, Try.results76, go_sem, F0, F1]
  · exact (HB.out.setCell (p := ⟨w.heap.size, 0, none⟩) (Nat.le_refl _) _).setCell (p := ⟨w.heap.size, 1, none⟩) (Nat.le_refl _) _

theorem sum_any (zs : List Int) (a : Option Addr) (cap : Nat) (w : World) (hlen : zs.length ≤ 1000) (hz : ∀ k, k < zs.length → -1000 ≤ gi zs k ∧ gi zs k ≤ 1000) (hr : Reads w a zs.length (ints zs)) :
    Calls Try.prog 58 #[.slice a zs.length cap] w fun e w' => e = .returned (.int .i64 zs.sum) ∧ w = w' := by
  have HR := Lib.hid hr
  have HZ := Lib.hid hz
  clear hr hz
  go_enter Try.func58, Try.ntmps58
  go_wp2_with fail
  go_loopw [3, 8] (fun s i wr => ∃ k : Nat, ∃ t : Int, k ≤ zs.length ∧ i = .int .i64 k ∧ s = .int .i64 t ∧ Hid (t = (zs.take k).sum) ∧ -(1000 * (k : Int)) ≤ t ∧ t ≤ 1000 * (k : Int) ∧ Hid (w = wr)) (fun _ i _ => zs.length - (intOf i).toNat)
  case atStart => exact ⟨0, 0, Nat.zero_le _, rfl, rfl, Lib.hid rfl, by omega, by omega, Lib.hid rfl⟩
  case round =>
    obtain ⟨k, t, hk, rfl, rfl, ht, ht1, ht2, hw⟩ := hrel
    by_cases hlt : k < zs.length
    · obtain ⟨b, off, rfl, hb, hc⟩ := HR.out.at hlt
      have h1 : wr.cell? ⟨b, off + k, none⟩ = some (.int .i64 (gi zs k)) := by rw [← hw.out]; exact hc k hlt
      have h2 := HZ.out k hlt
      clear hc
      go_wp2_with fail
      go_roundw
      case rel =>
        refine ⟨k + 1, t + gi zs k, by omega, by go_num, rfl, Lib.hid ?_, by omega, by omega, hw⟩
        rw [gi_take zs k hlt, List.sum_append, ht.out]; simp
      case measure => simp [intOf]; omega
    · have : k = zs.length := by omega
      subst this
      go_wp2_with fail
      go_ret
      refine ⟨ret_int ?_, hw.out⟩
      rw [ht.out, List.take_length]

end Go.Proofs.Ytmofgejoogikfaa

/-
  CheckChain and chainErr of package hybrid.
-/
namespace Go.Proofs.Ytmofgejoogikfaa
open Go.RowKit

/-- The error of a node. -/
def nodE (ks fs : List Int) (k : Nat) : Int := unl ((decide (1 ≤ gi ks k) && decide (gi ks k ≤ 20)) && (decide (-1000 ≤ gi fs k) && decide (gi fs k ≤ 1000))) 2
def chE0 (ks fs : List Int) : Int := firstE [unl (decide ((0 : Int) < ks.length) && ((fs.length : Int) == ks.length)) 10, unl (decide ((ks.length : Int) ≤ 6)) 8]
def chkC (ks fs : List Int) : Int × Int := if chE0 ks fs = 0 then eachR (nodE ks fs) 0 ks.length else (0, chE0 ks fs)
/-- A chain as a value. -/
abbrev chV (a1 : Option Addr) (n1 c1 : Nat) (a2 : Option Addr) (n2 c2 : Nat) : Array Value := #[.slice a1 n1 c1, .slice a2 n2 c2]

set_option maxHeartbeats 800000 in
set_option maxRecDepth 100000 in
theorem chain1_any (ks fs : List Int) (k q : Nat) (a1 a2 : Option Addr) (c1 c2 : Nat) (w : World) (hk : k < fs.length) (hq : Blk w q (chV a1 ks.length c1 a2 fs.length c2)) (hr : Reads w a2 fs.length (ints fs)) :
    Calls Try.prog 131 #[.int .i64 k, .int .i64 (gi ks k), .pointer (some ⟨q, 0, none⟩)] w fun e w' => e = .returned (.int .i64 (nodE ks fs k)) ∧ w = w' := by
  obtain ⟨b, off, rfl, hb, hc⟩ := hr.at hk
  have h1 : w.cell? ⟨b, off + k, none⟩ = some (.int .i64 (gi fs k)) := hc k hk
  obtain ⟨-, k0, -⟩ := hq
  clear hc hr
  unfold nodE
  cases hd : (decide (1 ≤ gi ks k) && decide (gi ks k ≤ 20))
  all_goals
    have HD := Lib.hid hd
    clear hd
    go_enter Try.func131, Try.ntmps131
    go_wp2_with (first | (go_at_call 94; refine (within_any _ _ _ _).mono ?_; rintro e w' ⟨rfl, rfl⟩; rw [HD.out]) | (go_at_call 72; refine (sized_any _ _ _ (by omega) (by omega)).mono ?_; rintro e w' ⟨rfl, rfl⟩) | (go_at_call 67; refine (unless_any _ _ _).mono ?_; rintro e w' ⟨rfl, rfl⟩))
    go_ret
    exact ⟨rfl, rfl⟩

set_option maxHeartbeats 1600000 in
set_option maxRecDepth 100000 in
theorem CheckChain_any (ks fs : List Int) (a1 a2 : Option Addr) (c1 c2 : Nat) (w : World) (h1 : ks.length ≤ 1000) (hr1 : Reads w a1 ks.length (ints ks)) (hr2 : Reads w a2 fs.length (ints fs)) :
    Calls Try.prog 102 #[.agg (chV a1 ks.length c1 a2 fs.length c2)] w fun e w' => e = .returned (.tuple #[.int .i64 (chkC ks fs).1, .int .i64 (chkC ks fs).2]) ∧ Below w.heap.size w w' := by
  have HR1 := Lib.hid hr1
  have HR2 := Lib.hid hr2
  have HFL : Hid (chE0 ks fs = 0 → fs.length = ks.length) := Lib.hid (fun h => by
    have h0 := firstE_zero (show firstE [_, _] = 0 from h)
    have h1 := unl_zero (by decide) (h0 _ (List.mem_cons_self ..))
    simp only [Bool.and_eq_true, beq_iff_eq] at h1
    omega)
  clear hr1 hr2
  have HEA := Lib.hid (fun (q : Nat) (W : World) (hI : Blk W q (chV a1 ks.length c1 a2 fs.length c2)) (hr : Reads W a1 ks.length (ints ks)) (hr2 : Reads W a2 fs.length (ints fs)) (hfl : fs.length = ks.length) =>
    each_int ks a1 c1 131 ⟨q, 0, none⟩ W (nodE ks fs) (fun _ W' => W = W') (by unfold maxLen; omega) (by intro args w; go_simp) rfl (fun k W' hk e => by subst e; exact hr) (fun k W' hk e => by
      subst e
      exact (chain1_any ks fs k q a1 a2 c1 c2 W (by omega) hI hr2).mono (fun e w' h => h)))
  obtain ⟨ce, hce⟩ : ∃ ce, chE0 ks fs = ce := ⟨_, rfl⟩
  obtain ⟨cc, hcc⟩ : ∃ cc, chkC ks fs = cc := ⟨_, rfl⟩
  have HC : Hid ((if ce = 0 then eachR (nodE ks fs) 0 ks.length else (0, ce)) = cc) := Lib.hid (by rw [← hcc, ← hce]; rfl)
  have HE0 : Hid (firstE [unl (decide ((0 : Int) < ks.length) && ((fs.length : Int) == ks.length)) 10, unl (decide ((ks.length : Int) ≤ 6)) 8] = ce) := Lib.hid (by rw [← hce]; rfl)
  rw [hce] at HFL
  rw [hcc]
  clear hce hcc
  obtain ⟨er, her⟩ : ∃ er, eachR (nodE ks fs) 0 ks.length = er := ⟨_, rfl⟩
  rw [her] at HC HEA
  clear her
  obtain ⟨m, hm⟩ : ∃ m, fs.length = m := ⟨_, rfl⟩
  rw [hm] at HR2 HFL HEA HE0 ⊢
  obtain ⟨l, hl⟩ : ∃ l, ks.length = l := ⟨_, rfl⟩
  rw [hl] at HR1 HFL HEA HE0 h1 ⊢
  clear hl hm
  rcases l with _ | n
  · have hE : ce = 10 := HE0.out.symm
    have hce : ¬ ce = 0 := by omega
    have HE := Lib.hid hE
    clear hE
    go_enter Try.func102, Try.ntmps102
    go_wp2_with fail
    obtain ⟨W, hW⟩ : ∃ W, w.alloc (.cells (chV a1 0 c1 a2 m c2) 24) = W := ⟨_, rfl⟩
    rw [hW]
    have K0 : Hid (Blk W w.heap.size (chV a1 0 c1 a2 m c2)) := by subst hW; exact Blk.new _ _ _
    have HB : Hid (Below w.heap.size w W) := by subst hW; exact bAlloc (bSelf w) _
    have HW1 : Hid (Reads W a1 0 (ints ks)) := by subst hW; exact HR1.out.alloc _
    have HW2 : Hid (Reads W a2 m (ints fs)) := by subst hW; exact HR2.out.alloc _
    clear hW
    refine wp_region_quiet_tail 19 (fun w' => Below (World.heap W).size (W) w') (by kernel_rfl) (by kernel_rfl) (Below.refl _ _).drew ?_
    simp only [List.take_succ_cons, List.take_zero, List.drop_succ_cons, List.drop_zero]
    refine WQ.out ?_
    repeat (first | (refine WQ_no (by rfl) ?_; (simp only [Act.put, List.setIfInBounds_toArray, List.set_cons_zero, List.set_cons_succ])) | (refine WQ_yes (by rfl) ?_; apply Exists.intro; refine ⟨fun w1 hb1 => ?_, ?_⟩; (focus (((obtain ⟨-, k0, -⟩ := K0.out.to hb1); have hb1 := Lib.hid hb1; go_simp); (try (go_bits; try go_simp)); (try (rw [if_pos (by omega)]; try go_simp)); (first | done | ((go_at_call 67; refine (unless_any _ _ _).mono ?_; rintro e w' ⟨rfl, rfl⟩; exact ⟨rfl, hb1.out⟩)) | (with_reducible rfl) | exact rfl))); (simp only [Act.put, List.setIfInBounds_toArray, List.set_cons_zero, List.set_cons_succ])))
    refine WQ_nil ?_
    intro w1 hb1
    replace K0 := Lib.hid (K0.out.to hb1)
    replace HB := Lib.hid (bThen HB.out hb1)
    replace HW1 := Lib.hid (HW1.out.to hb1)
    replace HW2 := Lib.hid (HW2.out.to hb1)
    clear hb1
    go_wp2_with fail
    refine (first2_new _ _ _ _ (by simp)).mono ?_
    rintro e w' ⟨rfl, rfl⟩
    have e1 : firstE [unl false 10, unl true 8] = ce := HE.out.symm
    rw [e1]
    have hce' : (ce != 0) = true := by simpa using hce
    go_wp2_with fail
    go_ret2
    rw [← HC.out, if_neg hce]
    exact ⟨rfl, bAlloc HB.out _⟩
  · have hpos : 0 < n + 1 := by omega
    have HE1 : Hid (firstE [unl ((m : Int) == (n : Int) + 1) 10, unl (decide ((n : Int) + 1 ≤ 6)) 8] = ce) := Lib.hid (by
      have := HE0.out
      rwa [decide_eq_true (by omega), Bool.true_and] at this)
    go_enter Try.func102, Try.ntmps102
    go_wp2_with fail
    obtain ⟨W, hW⟩ : ∃ W, w.alloc (.cells (chV a1 (n + 1) c1 a2 m c2) 24) = W := ⟨_, rfl⟩
    rw [hW]
    have K0 : Hid (Blk W w.heap.size (chV a1 (n + 1) c1 a2 m c2)) := by subst hW; exact Blk.new _ _ _
    have HB : Hid (Below w.heap.size w W) := by subst hW; exact bAlloc (bSelf w) _
    have HW1 : Hid (Reads W a1 (n + 1) (ints ks)) := by subst hW; exact HR1.out.alloc _
    have HW2 : Hid (Reads W a2 m (ints fs)) := by subst hW; exact HR2.out.alloc _
    clear hW
    refine wp_region_quiet_tail 19 (fun w' => Below (World.heap W).size (W) w') (by kernel_rfl) (by kernel_rfl) (Below.refl _ _).drew ?_
    simp only [List.take_succ_cons, List.take_zero, List.drop_succ_cons, List.drop_zero]
    refine WQ.out ?_
    repeat (first | (refine WQ_no (by rfl) ?_; (simp only [Act.put, List.setIfInBounds_toArray, List.set_cons_zero, List.set_cons_succ])) | (refine WQ_yes (by rfl) ?_; apply Exists.intro; refine ⟨fun w1 hb1 => ?_, ?_⟩; (focus (((obtain ⟨-, k0, -⟩ := K0.out.to hb1); have hb1 := Lib.hid hb1; go_simp); (try (go_bits; try go_simp)); (try (rw [if_pos (by omega)]; try go_simp)); (first | done | ((go_at_call 67; refine (unless_any _ _ _).mono ?_; rintro e w' ⟨rfl, rfl⟩; exact ⟨rfl, hb1.out⟩)) | (with_reducible rfl) | exact rfl))); (simp only [Act.put, List.setIfInBounds_toArray, List.set_cons_zero, List.set_cons_succ])))
    refine WQ_nil ?_
    intro w1 hb1
    replace K0 := Lib.hid (K0.out.to hb1)
    replace HB := Lib.hid (bThen HB.out hb1)
    replace HW1 := Lib.hid (HW1.out.to hb1)
    replace HW2 := Lib.hid (HW2.out.to hb1)
    clear hb1
    go_wp2_with fail
    refine (first2_new _ _ _ _ (by simp)).mono ?_
    rintro e w' ⟨rfl, rfl⟩
    rw [HE1.out]
    by_cases hce : ce = 0
    · have hce' : (ce != 0) = false := by simpa using hce
      have HZ := Lib.hid (HFL.out hce)
      have HC0 := HC.out
      rw [if_pos hce] at HC0
      have HCC := Lib.hid HC0
      clear HC0 hce
      have K1 := Lib.hid (K0.out.alloc (.cells #[.int .i64 (unl ((m : Int) == (n : Int) + 1) 10), .int .i64 (unl (decide ((n : Int) + 1 ≤ 6)) 8)] 36))
      obtain ⟨-, k0, -⟩ := K1.out
      go_wp2_with fail
      refine (HEA.out _ _ K1.out (HW1.out.alloc _) (HW2.out.alloc _) HZ.out).mono ?_
      rintro e w' ⟨rfl, k, hk, rfl⟩
      go_wp2_with fail
      go_ret2
      rw [HCC.out]
      exact ⟨rfl, bAlloc HB.out _⟩
    · have hce' : (ce != 0) = true := by simpa using hce
      go_wp2_with fail
      go_ret2
      rw [← HC.out, if_neg hce]
      exact ⟨rfl, bAlloc HB.out _⟩

set_option maxHeartbeats 800000 in
set_option maxRecDepth 100000 in
theorem chainErr_any (ks fs : List Int) (a1 a2 : Option Addr) (c1 c2 : Nat) (w : World) (h1 : ks.length ≤ 1000) (hr1 : Reads w a1 ks.length (ints ks)) (hr2 : Reads w a2 fs.length (ints fs)) :
    Calls Try.prog 54 #[.agg (chV a1 ks.length c1 a2 fs.length c2)] w fun e w' => e = .returned (.int .i64 (chkC ks fs).2) ∧ Below w.heap.size w w' := by
  have HR1 := Lib.hid hr1
  have HR2 := Lib.hid hr2
  clear hr1 hr2
  go_enter Try.func54, Try.ntmps54
  go_wp2_with fail
  refine (CheckChain_any ks fs a1 a2 c1 c2 _ h1 (HR1.out.alloc _) (HR2.out.alloc _)).mono ?_
  rintro e w' ⟨rfl, hb⟩
  have HB := Lib.hid (bThen (bAlloc (bSelf w) _) hb)
  clear hb
  go_wp2_with fail
  go_ret
  exact ⟨rfl, HB.out⟩

end Go.Proofs.Ytmofgejoogikfaa

