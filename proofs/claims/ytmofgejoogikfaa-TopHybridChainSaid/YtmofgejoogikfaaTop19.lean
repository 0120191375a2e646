/-
  Texts of this claim, in their build order: Z2 Z5 U1 V3.
-/
import Derived.Test.YtmofgejoogikfaaTop18
import Derived.Test.YtmofgejoogikfaaTop12
import Derived.Test.YtmofgejoogikfaaTop16
import Derived.Lib.AppendZerosOnto

/-
  The reference's halves: CopyHalves, SameHalves.
-/
namespace Go.Proofs.Ytmofgejoogikfaa
open Go.RowKit

/-- Halves as a value. -/
abbrev hvV (a1 : Option Addr) (n1 c1 : Nat) (a2 : Option Addr) (n2 c2 : Nat) (F : Int) : Array Value := #[.slice a1 n1 c1, .slice a2 n2 c2, .int .i64 F]
/-- A copy of halves, in new memory. -/
def HPost (ls us : List (Int × Int)) (F : Int) (w : World) (e : Ending) (w' : World) : Prop :=
  ∃ a1 c1 a2 c2, e = .returned (.agg (hvV a1 ls.length c1 a2 us.length c2 F)) ∧ ls.length ≤ c1 ∧ us.length ≤ c2 ∧ Reads w' a1 (ls.length * 2) (fracs ls) ∧ Reads w' a2 (us.length * 2) (fracs us) ∧ Below w.heap.size w w' ∧ (∀ p, a1 = some p → w.heap.size ≤ p.block) ∧ (∀ p, a2 = some p → w.heap.size ≤ p.block)

set_option maxHeartbeats 800000 in
set_option maxRecDepth 100000 in
theorem CopyHalves_any (ls us : List (Int × Int)) (F : Int) (a1 a2 : Option Addr) (c1 c2 : Nat) (w : World) (hk : ls.length ≤ 100000) (hf : us.length ≤ 100000) (hr1 : Reads w a1 (ls.length * 2) (fracs ls)) (hr2 : Reads w a2 (us.length * 2) (fracs us)) :
    Calls Try.prog 20 #[.agg (hvV a1 ls.length c1 a2 us.length c2 F)] w fun e w' => HPost ls us F w e w' := by
  have H1 := Lib.hid (fun W (hb : Below w.heap.size w W) => CopyFracs_any ls a1 c1 W hk (hr1.to hb))
  have H2 := Lib.hid (fun W (hb : Below w.heap.size w W) => CopyFracs_any us a2 c2 W hf (hr2.to hb))
  have HP : Hid (∀ e w', (∃ a1 c1 a2 c2, e = .returned (.agg (hvV a1 ls.length c1 a2 us.length c2 F)) ∧ ls.length ≤ c1 ∧ us.length ≤ c2 ∧ Reads w' a1 (ls.length * 2) (fracs ls) ∧ Reads w' a2 (us.length * 2) (fracs us) ∧ Below w.heap.size w w' ∧ (∀ p, a1 = some p → w.heap.size ≤ p.block) ∧ (∀ p, a2 = some p → w.heap.size ≤ p.block)) → HPost ls us F w e w') := Lib.hid (fun e w' h => h)
  unfold FPost at H1 H2
  obtain ⟨n1, hn1⟩ : ∃ n, ls.length = n := ⟨_, rfl⟩
  obtain ⟨n2, hn2⟩ : ∃ n, us.length = n := ⟨_, rfl⟩
  rw [hn1] at H1 HP
  rw [hn2] at H2 HP
  rw [hn1, hn2]
  clear hn1 hn2 hk hf hr1 hr2
  go_enter Try.func20, Try.ntmps20
  go_upto_region 1 with (fail)
  obtain ⟨w3, hw3⟩ : ∃ w3, (w.alloc (.cells (hvV a1 n1 c1 a2 n2 c2 F) 45)).alloc (.cells #[.slice none 0 0, .slice none 0 0, .int .i64 0] 45) = w3 := ⟨_, rfl⟩
  rw [hw3]
  have K0 : Hid (Blk w3 w.heap.size (hvV a1 n1 c1 a2 n2 c2 F)) := by subst hw3; exact Lib.hid ((Blk.new _ _ _).alloc _)
  have K1 : Hid (Blk w3 (w.heap.size + 1) #[.slice none 0 0, .slice none 0 0, .int .i64 0]) := by subst hw3; exact Lib.hid (Blk.newAt _ _ _ (by simp))
  have HB : Hid (Below w.heap.size w w3) := by subst hw3; exact Lib.hid (bAlloc (bAlloc (bSelf w) _) _)
  clear hw3
  have hs3 : w.heap.size + 1 < w3.heap.size := K1.out.1
  refine wp_region_treeT 9 (by kernel_rfl) (by kernel_rfl) (fun wd hwd => ?_)
  have T := Lib.hid hwd
  clear hwd
  refine WE_yes 0 rfl (by kernel_rfl) (fun _ _ _ _ _ h => h) (by rfl) ?_; apply Exists.intro; refine ⟨fun w1 hb1 => ?_, ?_⟩; (focus ((skip; have hb1 := Lib.hid hb1; go_simp); (try (go_bits; try go_simp)); (try (rw [if_pos (by omega)]; try go_simp)); (first | done | (fail) | (with_reducible rfl) | exact rfl)))
  simp only [Act.put, List.setIfInBounds_toArray, List.set_cons_zero, List.set_cons_succ]
  refine WE_yes 1 rfl (by kernel_rfl) (fun _ _ _ _ _ h => h) (by rfl) ?_; apply Exists.intro; refine ⟨fun w1 hb1 => ?_, ?_⟩; (focus (((obtain ⟨-, k0, -⟩ := K0.out.to (T.out.trans hb1)); have hb1 := Lib.hid hb1; go_simp); (try (go_bits; try go_simp)); (try (rw [if_pos (by omega)]; try go_simp)); (first | done | (fail) | (with_reducible rfl) | exact rfl)))
  simp only [Act.put, List.setIfInBounds_toArray, List.set_cons_zero, List.set_cons_succ]
  refine WE_yes 3 rfl (by kernel_rfl) (fun _ _ _ _ _ h => h) (by rfl) ?_; apply Exists.intro; refine ⟨fun w1 hb1 => ?_, ?_⟩; (focus ((skip; have hb1 := Lib.hid hb1; go_simp); (try (go_bits; try go_simp)); (try (rw [if_pos (by omega)]; try go_simp)); (first | done | (fail) | (with_reducible rfl) | exact rfl)))
  simp only [Act.put, List.setIfInBounds_toArray, List.set_cons_zero, List.set_cons_succ]
  refine WE_yes 4 rfl (by kernel_rfl) (fun _ _ _ _ _ h => h) (by rfl) ?_; apply Exists.intro; refine ⟨fun w1 hb1 => ?_, ?_⟩; (focus (((obtain ⟨-, k0, -⟩ := K0.out.to (T.out.trans hb1)); have hb1 := Lib.hid hb1; go_simp); (try (go_bits; try go_simp)); (try (rw [if_pos (by omega)]; try go_simp)); (first | done | (fail) | (with_reducible rfl) | exact rfl)))
  simp only [Act.put, List.setIfInBounds_toArray, List.set_cons_zero, List.set_cons_succ]
  refine WE_yes 6 rfl (by kernel_rfl) (fun _ _ _ _ _ h => h) (by rfl) ?_; apply Exists.intro; refine ⟨fun w1 hb1 => ?_, ?_⟩; (focus ((skip; have hb1 := Lib.hid hb1; go_simp); (try (go_bits; try go_simp)); (try (rw [if_pos (by omega)]; try go_simp)); (first | done | (fail) | (with_reducible rfl) | exact rfl)))
  simp only [Act.put, List.setIfInBounds_toArray, List.set_cons_zero, List.set_cons_succ]
  refine WE_yes 7 rfl (by kernel_rfl) (fun _ _ _ _ _ h => h) (by rfl) ?_; apply Exists.intro; refine ⟨fun w1 hb1 => ?_, ?_⟩; (focus (((obtain ⟨-, k0, -⟩ := K0.out.to (T.out.trans hb1)); have hb1 := Lib.hid hb1; go_simp); (try (go_bits; try go_simp)); (try (rw [if_pos (by omega)]; try go_simp)); (first | done | (fail) | (with_reducible rfl) | exact rfl)))
  simp only [Act.put, List.setIfInBounds_toArray, List.set_cons_zero, List.set_cons_succ]
  refine WE_one 2 rfl (by decide) (by kernel_rfl) ?_
  unfold stepE
  go_wp2_with fail
  refine (H1.out _ (bThen HB.out T.out)).mono ?_
  rintro e w4 ⟨b1, d1, rfl, hd1, hr1, hb, hp1⟩
  have HR1 := Lib.hid hr1
  have hbd := Lib.hid (hb.mono T.out.size)
  have HP1 := Lib.hid (fun p hp => Nat.le_trans T.out.size (hp1 p hp))
  replace T := Lib.hid (T.out.trans hbd.out)
  clear hb hr1 hp1
  go_wp2_with fail
  refine ⟨hbd.out, ?_⟩
  clear hbd
  refine WE_one 5 rfl (by decide) (by kernel_rfl) ?_
  unfold stepE
  go_wp2_with fail
  refine (H2.out _ (bThen HB.out T.out)).mono ?_
  rintro e w5 ⟨b2, d2, rfl, hd2, hr2, hb, hp2⟩
  have HR2 := Lib.hid hr2
  replace HR1 := Lib.hid (HR1.out.to hb)
  have hbd := Lib.hid (hb.mono T.out.size)
  have HP2 := Lib.hid (fun p hp => Nat.le_trans T.out.size (hp2 p hp))
  replace T := Lib.hid (T.out.trans hbd.out)
  clear hb hr2 hp2
  go_wp2_with fail
  refine ⟨hbd.out, ?_⟩
  clear hbd
  refine WE_yes 8 rfl (by kernel_rfl) (fun _ _ _ _ _ h => h) (by rfl) ?_; apply Exists.intro; refine ⟨fun w1 hb1 => ?_, ?_⟩; (focus ((skip; have hb1 := Lib.hid hb1; go_simp); (try (go_bits; try go_simp)); (try (rw [if_pos (by omega)]; try go_simp)); (first | done | (fail) | (with_reducible rfl) | exact rfl)))
  simp only [Act.put, List.setIfInBounds_toArray, List.set_cons_zero, List.set_cons_succ]
  replace K1 := Lib.hid (K1.out.to T.out)
  replace HB := Lib.hid (bThen HB.out T.out)
  refine WE_tail rfl (by kernel_rfl) ?_
  simp only [List.drop_succ_cons, List.drop_zero]
  obtain ⟨hk1, k1, f1⟩ := K1.out
  go_wp2_with fail
  clear k1 f1
  have FF := (((K1.out.set 0 (.slice b1 n1 d1)).set 1 (.slice b2 n2 d2)).set 2 (.int .i64 F)).2.1
  have F0 := FF 0; have F1 := FF 1; have F2 := FF 2
  clear FF
  refine bodyPost_ret (v := .agg (hvV b1 n1 d1 b2 n2 d2 F)) ?_ rfl (HP.out _ _ ⟨b1, d1, b2, d2, rfl, hd1, hd2, ((HR1.out.other _ _ (fun b off e => ?_)).other _ _ (fun b off e => ?_)).other _ _ (fun b off e => ?_), ((HR2.out.other _ _ (fun b off e => ?_)).other _ _ (fun b off e => ?_)).other _ _ (fun b off e => ?_), ((HB.out.setCell (p := ⟨w.heap.size + 1, 0, none⟩) (by dsimp only; omega) _).setCell (p := ⟨w.heap.size + 1, 1, none⟩) (by dsimp only; omega) _).setCell (p := ⟨w.heap.size + 1, 2, none⟩) (by dsimp only; omega) _, fun p hp => Nat.le_trans (by omega) (HP1.out p hp), fun p hp => Nat.le_trans (by omega) (HP2.out p hp)⟩)
  · simp [results, Try.results20, go_sem, F0, F1, F2]
  · have := HP1.out _ e; dsimp only at this ⊢; omega
  · have := HP1.out _ e; dsimp only at this ⊢; omega
  · have := HP1.out _ e; dsimp only at this ⊢; omega
  · have := HP2.out _ e; dsimp only at this ⊢; omega
  · have := HP2.out _ e; dsimp only at this ⊢; omega
  · have := HP2.out _ e; dsimp only at this ⊢; omega

end Go.Proofs.Ytmofgejoogikfaa

/-
  The reference's halves of a chain: Halves.
-/
namespace Go.Proofs.Ytmofgejoogikfaa
open Go.RowKit

theorem fg_take {l : List (Int × Int)} {n i : Nat} (h : i < n) : fg (l.take n) i = fg l i := by
  unfold fg; rw [List.getD_eq_getElem?_getD, List.getD_eq_getElem?_getD, List.getElem?_take_of_lt h]
theorem fg_drop (l : List (Int × Int)) (n i : Nat) : fg (l.drop n) i = fg l (n + i) := by
  unfold fg; rw [List.getD_eq_getElem?_getD, List.getD_eq_getElem?_getD, List.getElem?_drop]
theorem fracs_take {l : List (Int × Int)} {n j : Nat} (h : j < n * 2) : fracs (l.take n) j = fracs l j := by
  unfold fracs; rw [fg_take (by omega)]
theorem fracs_drop (l : List (Int × Int)) (n j : Nat) : fracs (l.drop n) j = fracs l (n * 2 + j) := by
  unfold fracs; rw [fg_drop, show (n * 2 + j) / 2 = n + j / 2 by omega, show (n * 2 + j) % 2 = j % 2 by omega]
theorem Reads.takeF {W : World} {b off : Nat} {l : List (Int × Int)} (h : Reads W (some ⟨b, off, none⟩) (l.length * 2) (fracs l)) {n : Nat} (hn : n ≤ l.length) : Reads W (some ⟨b, off, none⟩) ((l.take n).length * 2) (fracs (l.take n)) := by
  rw [List.length_take, Nat.min_eq_left hn]
  rcases h with h | ⟨b', off', e, hb, hc⟩
  · exact .inl (by omega)
  · cases e
    exact .inr ⟨b, off, rfl, hb, fun i hi => by rw [fracs_take hi]; exact hc i (by omega)⟩
theorem Reads.dropF {W : World} {b off : Nat} {l : List (Int × Int)} (h : Reads W (some ⟨b, off, none⟩) (l.length * 2) (fracs l)) {n : Nat} (hn : n ≤ l.length) : Reads W (some ⟨b, off + n * 2, none⟩) ((l.drop n).length * 2) (fracs (l.drop n)) := by
  rw [List.length_drop]
  rcases h with h | ⟨b', off', e, hb, hc⟩
  · exact .inl (by omega)
  · cases e
    exact .inr ⟨b, off + n * 2, rfl, hb, fun i hi => by rw [fracs_drop, Nat.add_assoc]; exact hc _ (by omega)⟩

end Go.Proofs.Ytmofgejoogikfaa

/-
  nodeErr and HalvesOf of package hybrid.
-/
namespace Go.Proofs.Ytmofgejoogikfaa
open Go.RowKit

set_option maxHeartbeats 400000 in
set_option maxRecDepth 100000 in
theorem CloneF_any (ms : List (Int × Int)) (ad : Addr) (cap : Nat) (w : World) (hfew : ms.length ≤ 100000) (hr : Reads w (some ad) (ms.length * 2) (fracs ms)) :
    Calls Try.prog 57 #[.slice (some ad) ms.length cap] w fun e w' => FPost ms w e w' := by
  have HR := Lib.hid hr
  clear hr
  have HN := Lib.hid (Reads.newsF (HR.out.alloc (.cells #[] 55)))
  have hcl := Lib.hid (fcells_len ms)
  have hq : (binOp .eql 35 (.slice (some ad) ms.length cap) (.slice none 0 0)).run Try.prog w = .ok (.bool false) w := Lib.run_eql_slice_nil w _ _ (some ad) ms.length cap 0 0 Try.underlying35
  go_enter Try.func57, Try.ntmps57
  go_wp2_with (at_builtin; refine wpList_app w.heap.size rtFrac rfl (.tmp 5) (.tmp 6) rfl (.slice (some ⟨w.heap.size, 0, none⟩) 0 0) 0 [] rfl (World.ownsRow_lit w #[] 0 (Nat.le_refl _) (by decide) rfl) ad ms.length cap (fcells ms) rfl hcl.out HN.out (onesF _) (by unfold maxLen; omega) (by omega) (by simp) ?_; intro v' w2 hown' hgrow _ hwhere; have HO := Lib.hid hown'; have HBB : Hid (Below w.heap.size w w2) := Lib.hid ((bAlloc (bSelf w) _).grown hgrow (by simp) (fun k e => by cases e; exact Nat.le_refl _)); clear hown' hgrow hwhere)
  go_ret
  have hrow := HO.out
  rw [Nat.zero_add, List.nil_append] at hrow
  obtain ⟨a', cap', rfl, hcp, hrd, hfr⟩ := Reads.of_row (f := fracs ms) hrow (fun i hi => fcells_get ms i hi)
  exact ⟨a', cap', rfl, hcp, hrd, HBB.out, hfr⟩

/-- The error of a chain and a node. -/
def ndE (ks fs : List Int) (node : Int) : Int := firstE [(chkC ks fs).2, unl (decide (0 ≤ node) && decide (node ≤ (ks.length : Int) - 1)) 6]

set_option maxHeartbeats 800000 in
set_option maxRecDepth 100000 in
theorem nodeErr_any (ks fs : List Int) (node : Int) (a1 a2 : Option Addr) (c1 c2 : Nat) (w : World) (h1 : ks.length ≤ 1000) (hr1 : Reads w a1 ks.length (ints ks)) (hr2 : Reads w a2 fs.length (ints fs)) :
    Calls Try.prog 56 #[.agg (chV a1 ks.length c1 a2 fs.length c2), .int .i64 node] w fun e w' => e = .returned (.int .i64 (ndE ks fs node)) ∧ Below w.heap.size w w' := by
  have HC := Lib.hid (fun W (hb : Below w.heap.size w W) => chainErr_any ks fs a1 a2 c1 c2 W h1 (hr1.to hb) (hr2.to hb))
  unfold ndE
  obtain ⟨ce, hce⟩ : ∃ ce, (chkC ks fs).2 = ce := ⟨_, rfl⟩
  rw [hce] at HC ⊢
  obtain ⟨n, hn⟩ : ∃ n, ks.length = n := ⟨_, rfl⟩
  obtain ⟨m, hm⟩ : ∃ n, fs.length = n := ⟨_, rfl⟩
  rw [hn] at HC h1 ⊢
  rw [hm] at HC ⊢
  clear hce hn hm hr1 hr2
  go_enter Try.func56, Try.ntmps56
  go_wp2_with fail
  obtain ⟨W, hW⟩ : ∃ W, w.alloc (.cells (chV a1 n c1 a2 m c2) 24) = W := ⟨_, rfl⟩
  rw [hW]
  have K0 : Hid (Blk W w.heap.size (chV a1 n c1 a2 m c2)) := by subst hW; exact Lib.hid (Blk.new _ _ _)
  have HB : Hid (Below w.heap.size w W) := by subst hW; exact Lib.hid (bAlloc (bSelf w) _)
  clear hW
  refine wp_region_quiet_tail 9 (fun w' => Below (World.heap W).size (W) w') (by kernel_rfl) (by kernel_rfl) (Below.refl _ _).drew ?_
  simp only [List.take_succ_cons, List.take_zero, List.drop_succ_cons, List.drop_zero]
  refine WQ.out ?_
  repeat (first | (refine WQ_no (by rfl) ?_; (simp only [Act.put, List.setIfInBounds_toArray, List.set_cons_zero, List.set_cons_succ])) | (refine WQ_yes (by rfl) ?_; apply Exists.intro; refine ⟨fun w1 hb1 => ?_, ?_⟩; (focus (((obtain ⟨-, k0, -⟩ := K0.out.to hb1); have hb1 := Lib.hid hb1; go_simp); (try (go_bits; try go_simp)); (try (rw [if_pos (by omega)]; try go_simp)); (first | done | ((first | (go_at_call 54; refine (HC.out _ (bThen HB.out hb1.out)).mono ?_; rintro e w' ⟨rfl, hb2⟩; exact ⟨rfl, bThen hb1.out hb2⟩) | (go_at_call 94; refine (within_any _ _ _ _).mono ?_; rintro e w' ⟨rfl, rfl⟩; exact ⟨rfl, hb1.out⟩) | (go_at_call 67; refine (unless_any _ _ _).mono ?_; rintro e w' ⟨rfl, rfl⟩; exact ⟨rfl, hb1.out⟩))) | (with_reducible rfl) | exact rfl))); (simp only [Act.put, List.setIfInBounds_toArray, List.set_cons_zero, List.set_cons_succ])))
  refine WQ_nil ?_
  intro w1 hb1
  replace HB := Lib.hid (bThen HB.out hb1)
  clear hb1
  go_wp2_with fail
  refine (first2_new _ _ _ _ (by simp)).mono ?_
  rintro e w' ⟨rfl, rfl⟩
  go_wp2_with fail
  go_ret
  exact ⟨rfl, bAlloc HB.out _⟩

end Go.Proofs.Ytmofgejoogikfaa

/-
  divisor of package hybrid at any numbers; each over fractions; slices.Grow and slices.Concat of fractions.
-/
namespace Go.Proofs.Ytmofgejoogikfaa
open Go.RowKit

set_option maxHeartbeats 800000 in
set_option maxRecDepth 100000 in
theorem divisor_pos (x y : Int) (w : World) (hx0 : -9223372036854775808 ≤ x) (hx1 : x ≤ 9223372036854775807) (hy0 : 0 < y) (hy1 : y ≤ 9223372036854775807) :
    Calls Try.prog 71 #[.int .i64 x, .int .i64 y] w fun e w' => e = .returned (.int .i64 (Int.gcd x y : Nat)) ∧ Below w.heap.size w w' := by
  go_enter Try.func71, Try.ntmps71
  go_wp2_with fail
  go_loopw [0, 1] (fun p q wr => ∃ x' y' : Int, p = .int .i64 x' ∧ q = .int .i64 y' ∧ Hid (Int.gcd x' y' = Int.gcd x y) ∧ -9223372036854775808 ≤ x' ∧ x' ≤ 9223372036854775807 ∧ -9223372036854775807 ≤ y' ∧ y' ≤ 9223372036854775807 ∧ Hid (-9223372036854775807 ≤ x' ∨ 0 < y') ∧ Hid (Below w.heap.size w wr)) (fun _ q _ => (intOf q).natAbs)
  case atStart => exact ⟨x, y, rfl, rfl, Lib.hid rfl, hx0, hx1, by omega, hy1, Lib.hid (.inr hy0), Lib.hid (bSelf w)⟩
  case round =>
    obtain ⟨x', y', rfl, rfl, hg, hx0', hx1', hy0', hy1', hc, hb⟩ := hrel
    by_cases h0 : y' = 0
    · subst h0
      have hx2 : -9223372036854775807 ≤ x' := by have := hc.out; omega
      go_wp2_with fail
      all_goals
        go_ret
        refine ⟨ret_int ?_, hb.out⟩
        rw [← hg.out]
        simp only [Int.gcd_zero_right]
        omega
    · have h0' : (y' == 0) = false := by simpa using h0
      have hcc := hc.out
      have hm : (x'.tmod y').natAbs < y'.natAbs := by rw [Int.natAbs_tmod]; exact Nat.mod_lt _ (by omega)
      have hng : ¬ (x' = -9223372036854775808 ∧ y' = -1) := by omega
      have HM := Lib.hid hm
      clear hm hcc
      go_wp2_with fail
      refine wp_region_quiet_all (fun w' => Below (World.heap wr).size (wr) w') (by kernel_rfl) (by kernel_rfl) (Below.refl _ _).drew ?_
      refine WQ.out ?_
      repeat (first | (refine WQ_no (by rfl) ?_; (simp only [Act.put, List.setIfInBounds_toArray, List.set_cons_zero, List.set_cons_succ])) | (refine WQ_yes (by rfl) ?_; apply Exists.intro; refine ⟨fun w1 hb1 => ?_, ?_⟩; (focus ((skip; have hb1 := Lib.hid hb1; go_simp); (try (go_bits; try go_simp)); (try (rw [if_pos (by omega)]; try go_simp)); (first | done | (fail) | (with_reducible rfl) | exact rfl))); (simp only [Act.put, List.setIfInBounds_toArray, List.set_cons_zero, List.set_cons_succ])))
      refine WQ_nil ?_
      intro w1 hb1
      have hb2 := Lib.hid (bThen hb.out hb1)
      clear hb1
      go_wp2_with fail
      go_roundw
      case rel => have hm := HM.out; exact ⟨y', x'.tmod y', rfl, rfl, Lib.hid (gcd_step.trans hg.out), by omega, by omega, by omega, by omega, Lib.hid (.inl (by omega)), hb2⟩
      case measure => exact HM.out

set_option maxHeartbeats 800000 in
set_option maxRecDepth 100000 in
theorem each_frac (l : List (Int × Int)) (a : Option Addr) (cap fid : Nat) (bx : Array Value) (w : World) (err : Nat → Int) (hlen : l.length ≤ 1000)
    (hcf : ∀ args w, Sem.run Try.prog (callFunc fid args) w = .ok (.enter fid args) w)
    (hrd : Reads w a (l.length * 2) (fracs l))
    (hst : ∀ k W, k < l.length → Below w.heap.size w W → Calls Try.prog fid (#[.int .i64 k, .agg #[.int .i64 (fg l k).1, .int .i64 (fg l k).2]] ++ bx) W fun e w'' => e = .returned (.int .i64 (err k)) ∧ Below W.heap.size W w'') :
    Calls Try.prog 69 #[.slice a l.length cap, .func (.func fid) #[] bx] w
      fun e w' => e = .returned (.tuple #[.int .i64 (eachR err 0 l.length).1, .int .i64 (eachR err 0 l.length).2]) ∧ Below w.heap.size w w' := by
  have HRD := Lib.hid hrd
  have HST := Lib.hid hst
  clear hrd hst
  go_enter Try.func69, Try.ntmps69
  go_wp2_with fail
  go_loopw [6, 8, 11] (fun _ _ i wr => ∃ k : Nat, k ≤ l.length ∧ i = .int .i64 k ∧ Hid (eachR err 0 l.length = eachR err k (l.length - k)) ∧ Hid (Below w.heap.size w wr)) (fun _ _ i _ => l.length - (intOf i).toNat)
  case atStart => exact ⟨0, Nat.zero_le _, rfl, Lib.hid rfl, Lib.hid (bSelf w)⟩
  case round =>
    obtain ⟨k, hk, rfl, hr, hI⟩ := hrel
    by_cases hlt : k < l.length
    · have hltI : decide ((k : Int) < (l.length : Int)) = true := decide_eq_true (by omega)
      obtain ⟨b, off, rfl, hb, hc⟩ := (HRD.out.to hI.out).at (k := k * 2) (by omega)
      have HSK := Lib.hid (fun W => HST.out k W hlt)
      obtain ⟨n, d, hnd⟩ : ∃ n d, fg l k = (n, d) := ⟨_, _, rfl⟩
      have kn : wr.cell? ⟨b, off + k * 2, none⟩ = some (.int .i64 n) := by rw [hc _ (by omega), fracs0, hnd]
      have kd : wr.cell? ⟨b, off + k * 2 + 1, none⟩ = some (.int .i64 d) := by rw [Nat.add_assoc, hc _ (by omega), fracs1, hnd]
      rw [hnd] at HSK
      dsimp only at HSK
      clear hc hnd
      by_cases hz : err k = 0
      · have hz' : (err k != 0) = false := by simpa using hz
        have HZ := Lib.hid hz
        clear hz
        go_wp2_with fail
        refine (HSK.out _ (bAlloc hI.out _)).mono ?_
        rintro e w' ⟨rfl, hI'⟩
        have hI' := Lib.hid (bThen (bAlloc hI.out _) hI')
        go_wp2_with fail
        go_roundw
        case rel => exact ⟨k + 1, by omega, by go_num, hr.out.trans (eachR_step hlt HZ.out), hI'⟩
        case measure => simp [intOf]; omega
      · have hz' : (err k != 0) = true := by simpa using hz
        have HZ := Lib.hid hz
        clear hz
        go_wp2_with fail
        refine (HSK.out _ (bAlloc hI.out _)).mono ?_
        rintro e w' ⟨rfl, hI'⟩
        have hI' := Lib.hid (bThen (bAlloc hI.out _) hI')
        go_wp2_with fail
        go_ret2
        exact ⟨by rw [hr.out, eachR_stop hlt HZ.out]; rfl, hI'.out⟩
    · have hke : k = l.length := by omega
      have hltI : decide ((k : Int) < (l.length : Int)) = false := decide_eq_false (by omega)
      have HKE := Lib.hid hke
      clear hke
      go_wp2_with fail
      go_ret2
      exact ⟨by rw [hr.out, HKE.out, Nat.sub_self]; rfl, hI.out⟩

end Go.Proofs.Ytmofgejoogikfaa

