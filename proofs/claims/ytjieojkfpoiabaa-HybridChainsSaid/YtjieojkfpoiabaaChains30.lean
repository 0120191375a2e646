/-
  Texts of this claim, in their build order: Z2.
-/
import Derived.Test.YtjieojkfpoiabaaChains27
import Derived.Test.YtjieojkfpoiabaaChains21

/-
  The reference's halves: CopyHalves, SameHalves.
-/
namespace Go.Proofs.Ytjieojkfpoiabaa
open Go.RowKit

/-- Halves as a value. -/
abbrev hvV (a1 : Option Addr) (n1 c1 : Nat) (a2 : Option Addr) (n2 c2 : Nat) (F : Int) : Array Value := #[.slice a1 n1 c1, .slice a2 n2 c2, .int .i64 F]
/-- A copy of halves, in new memory. -/
def HPost (ls us : List (Int × Int)) (F : Int) (w : World) (e : Ending) (w' : World) : Prop :=
  ∃ a1 c1 a2 c2, e = .returned (.agg (hvV a1 ls.length c1 a2 us.length c2 F)) ∧ ls.length ≤ c1 ∧ us.length ≤ c2 ∧ Reads w' a1 (ls.length * 2) (fracs ls) ∧ Reads w' a2 (us.length * 2) (fracs us) ∧ Below w.heap.size w w' ∧ (∀ p, a1 = some p → w.heap.size ≤ p.block) ∧ (∀ p, a2 = some p → w.heap.size ≤ p.block)

set_option maxHeartbeats 800000 in
set_option maxRecDepth 100000 in
theorem CopyHalves_any (ls us : List (Int × Int)) (F : Int) (a1 a2 : Option Addr) (c1 c2 : Nat) (w : World) (hk : ls.length ≤ 100000) (hf : us.length ≤ 100000) (hr1 : Reads w a1 (ls.length * 2) (fracs ls)) (hr2 : Reads w a2 (us.length * 2) (fracs us)) :
    Calls Try.prog 51 #[.agg (hvV a1 ls.length c1 a2 us.length c2 F)] w fun e w' => HPost ls us F w e w' := by
  have H1 := Lib.hid (fun W (hb : Below w.heap.size w W) => CopyFracs_any ls a1 c1 W hk (hr1.to hb))
  have H2 := Lib.hid (fun W (hb : Below w.heap.size w W) => CopyFracs_any us a2 c2 W hf (hr2.to hb))
  have HP : Hid (∀ e w', (∃ a1 c1 a2 c2, e = .returned (.agg (hvV a1 ls.length c1 a2 us.length c2 F)) ∧ ls.length ≤ c1 ∧ us.length ≤ c2 ∧ Reads w' a1 (ls.length * 2) (fracs ls) ∧ Reads w' a2 (us.length * 2) (fracs us) ∧ Below w.heap.size w w' ∧ (∀ p, a1 = some p → w.heap.size ≤ p.block) ∧ (∀ p, a2 = some p → w.heap.size ≤ p.block)) → HPost ls us F w e w') := Lib.hid (fun e w' h => h)
  unfold FPost at H1 H2
  obtain ⟨n1, hn1⟩ : ∃ n, ls.length = n := ⟨_, rfl⟩
  obtain ⟨n2, hn2⟩ : ∃ n, us.length = n := ⟨_, rfl⟩
  rw [hn1] at H1 HP
  rw [hn2] at H2 HP
  rw [hn1, hn2]
  clear hn1 hn2 hk hf hr1 hr2
  go_enter Try.func51, Try.ntmps51
  go_upto_region 1 with (fail)
  obtain ⟨w3, hw3⟩ : ∃ w3, (w.alloc (.cells (hvV a1 n1 c1 a2 n2 c2 F) 76)).alloc (.cells #[.slice none 0 0, .slice none 0 0, .int .i64 0] 76) = w3 := ⟨_, rfl⟩
  rw [hw3]
  have K0 : Hid (Blk w3 w.heap.size (hvV a1 n1 c1 a2 n2 c2 F)) := by subst hw3; exact Lib.hid ((Blk.new _ _ _).alloc _)
  have K1 : Hid (Blk w3 (w.heap.size + 1) #[.slice none 0 0, .slice none 0 0, .int .i64 0]) := by subst hw3; exact Lib.hid (Blk.newAt _ _ _ (by simp))
  have HB : Hid (Below w.heap.size w w3) := by subst hw3; exact Lib.hid (bAlloc (bAlloc (bSelf w) _) _)
  clear hw3
  have hs3 : w.heap.size + 1 < w3.heap.size := K1.out.1
  refine wp_region_treeT 9 (by kernel_rfl) (by kernel_rfl) (fun wd hwd => ?_)
  have T := Lib.hid hwd
  clear hwd
  refine WE_yes 0 rfl (by kernel_rfl) (fun _ _ _ _ _ h => h) (by rfl) ?_; apply Exists.intro; refine ⟨fun w1 hb1 => ?_, ?_⟩; (focus ((skip; have hb1 := Lib.hid hb1; go_simp); (try (go_bits; try go_simp)); (try (rw [if_pos (by omega)]; try go_simp)); (first | done | (fail) | (with_reducible rfl) | exact rfl)))
  simp only [Act.put, List.setIfInBounds_toArray, List.set_cons_zero, List.set_cons_succ]
  refine WE_yes 1 rfl (by kernel_rfl) (fun _ _ _ _ _ h => h) (by rfl) ?_; apply Exists.intro; refine ⟨fun w1 hb1 => ?_, ?_⟩; (focus (((obtain ⟨-, k0, -⟩ := K0.out.to (T.out.trans hb1)); have hb1 := Lib.hid hb1; go_simp); (try (go_bits; try go_simp)); (try (rw [if_pos (by omega)]; try go_simp)); (first | done | (fail) | (with_reducible rfl) | exact rfl)))
  simp only [Act.put, List.setIfInBounds_toArray, List.set_cons_zero, List.set_cons_succ]
  refine WE_yes 3 rfl (by kernel_rfl) (fun _ _ _ _ _ h => h) (by rfl) ?_; apply Exists.intro; refine ⟨fun w1 hb1 => ?_, ?_⟩; (focus ((skip; have hb1 := Lib.hid hb1; go_simp); (try (go_bits; try go_simp)); (try (rw [if_pos (by omega)]; try go_simp)); (first | done | (fail) | (with_reducible rfl) | exact rfl)))
  simp only [Act.put, List.setIfInBounds_toArray, List.set_cons_zero, List.set_cons_succ]
  refine WE_yes 4 rfl (by kernel_rfl) (fun _ _ _ _ _ h => h) (by rfl) ?_; apply Exists.intro; refine ⟨fun w1 hb1 => ?_, ?_⟩; (focus (((obtain ⟨-, k0, -⟩ := K0.out.to (T.out.trans hb1)); have hb1 := Lib.hid hb1; go_simp); (try (go_bits; try go_simp)); (try (rw [if_pos (by omega)]; try go_simp)); (first | done | (fail) | (with_reducible rfl) | exact rfl)))
  simp only [Act.put, List.setIfInBounds_toArray, List.set_cons_zero, List.set_cons_succ]
  refine WE_yes 6 rfl (by kernel_rfl) (fun _ _ _ _ _ h => h) (by rfl) ?_; apply Exists.intro; refine ⟨fun w1 hb1 => ?_, ?_⟩; (focus ((skip; have hb1 := Lib.hid hb1; go_simp); (try (go_bits; try go_simp)); (try (rw [if_pos (by omega)]; try go_simp)); (first | done | (fail) | (with_reducible rfl) | exact rfl)))
  simp only [Act.put, List.setIfInBounds_toArray, List.set_cons_zero, List.set_cons_succ]
  refine WE_yes 7 rfl (by kernel_rfl) (fun _ _ _ _ _ h => h) (by rfl) ?_; apply Exists.intro; refine ⟨fun w1 hb1 => ?_, ?_⟩; (focus (((obtain ⟨-, k0, -⟩ := K0.out.to (T.out.trans hb1)); have hb1 := Lib.hid hb1; go_simp); (try (go_bits; try go_simp)); (try (rw [if_pos (by omega)]; try go_simp)); (first | done | (fail) | (with_reducible rfl) | exact rfl)))
  simp only [Act.put, List.setIfInBounds_toArray, List.set_cons_zero, List.set_cons_succ]
  refine WE_one 2 rfl (by decide) (by kernel_rfl) ?_
  unfold stepE
  go_wp2_with fail
  refine (H1.out _ (bThen HB.out T.out)).mono ?_
  rintro e w4 ⟨b1, d1, rfl, hd1, hr1, hb, hp1⟩
  have HR1 := Lib.hid hr1
  have hbd := Lib.hid (hb.mono T.out.size)
  have HP1 := Lib.hid (fun p hp => Nat.le_trans T.out.size (hp1 p hp))
  replace T := Lib.hid (T.out.trans hbd.out)
  clear hb hr1 hp1
  go_wp2_with fail
  refine ⟨hbd.out, ?_⟩
  clear hbd
  refine WE_one 5 rfl (by decide) (by kernel_rfl) ?_
  unfold stepE
  go_wp2_with fail
  refine (H2.out _ (bThen HB.out T.out)).mono ?_
  rintro e w5 ⟨b2, d2, rfl, hd2, hr2, hb, hp2⟩
  have HR2 := Lib.hid hr2
  replace HR1 := Lib.hid (HR1.out.to hb)
  have hbd := Lib.hid (hb.mono T.out.size)
  have HP2 := Lib.hid (fun p hp => Nat.le_trans T.out.size (hp2 p hp))
  replace T := Lib.hid (T.out.trans hbd.out)
  clear hb hr2 hp2
  go_wp2_with fail
  refine ⟨hbd.out, ?_⟩
  clear hbd
  refine WE_yes 8 rfl (by kernel_rfl) (fun _ _ _ _ _ h => h) (by rfl) ?_; apply Exists.intro; refine ⟨fun w1 hb1 => ?_, ?_⟩; (focus ((skip; have hb1 := Lib.hid hb1; go_simp); (try (go_bits; try go_simp)); (try (rw [if_pos (by omega)]; try go_simp)); (first | done | (fail) | (with_reducible rfl) | exact rfl)))
  simp only [Act.put, List.setIfInBounds_toArray, List.set_cons_zero, List.set_cons_succ]
  replace K1 := Lib.hid (K1.out.to T.out)
  replace HB := Lib.hid (bThen HB.out T.out)
  refine WE_tail rfl (by kernel_rfl) ?_
  simp only [List.drop_succ_cons, List.drop_zero]
  obtain ⟨hk1, k1, f1⟩ := K1.out
  go_wp2_with fail
  clear k1 f1
  have FF := (((K1.out.set 0 (.slice b1 n1 d1)).set 1 (.slice b2 n2 d2)).set 2 (.int .i64 F)).2.1
  have F0 := FF 0; have F1 := FF 1; have F2 := FF 2
  clear FF
  refine bodyPost_ret (v := .agg (hvV b1 n1 d1 b2 n2 d2 F)) ?_ rfl (HP.out _ _ ⟨b1, d1, b2, d2, rfl, hd1, hd2, ((HR1.out.other _ _ (fun b off e => ?_)).other _ _ (fun b off e => ?_)).other _ _ (fun b off e => ?_), ((HR2.out.other _ _ (fun b off e => ?_)).other _ _ (fun b off e => ?_)).other _ _ (fun b off e => ?_), ((HB.out.setCell (p := ⟨w.heap.size + 1, 0, none⟩) (by dsimp only; omega) _).setCell (p := ⟨w.heap.size + 1, 1, none⟩) (by dsimp only; omega) _).setCell (p := ⟨w.heap.size + 1, 2, none⟩) (by dsimp only; omega) _, fun p hp => Nat.le_trans (by omega) (HP1.out p hp), fun p hp => Nat.le_trans (by omega) (HP2.out p hp)⟩)
  · simp [results, Try.results51, go_sem, F0, F1, F2]
  · have := HP1.out _ e; dsimp only at this ⊢; omega
  · have := HP1.out _ e; dsimp only at this ⊢; omega
  · have := HP1.out _ e; dsimp only at this ⊢; omega
  · have := HP2.out _ e; dsimp only at this ⊢; omega
  · have := HP2.out _ e; dsimp only at this ⊢; omega
  · have := HP2.out _ e; dsimp only at this ⊢; omega

set_option maxHeartbeats 800000 in
set_option maxRecDepth 100000 in
theorem SameHalves_any (l1 u1 l2 u2 : List (Int × Int)) (F1 F2 : Int) (a1 b1 a2 b2 : Option Addr) (c1 d1 c2 d2 : Nat) (w : World) (h1 : l1.length ≤ maxLen) (h2 : u1.length ≤ maxLen)
    (r1 : Reads w a1 (l1.length * 2) (fracs l1)) (r2 : Reads w b1 (u1.length * 2) (fracs u1)) (r3 : Reads w a2 (l2.length * 2) (fracs l2)) (r4 : Reads w b2 (u2.length * 2) (fracs u2)) :
    Calls Try.prog 54 #[.agg (hvV a1 l1.length c1 b1 u1.length d1 F1), .agg (hvV a2 l2.length c2 b2 u2.length d2 F2)] w fun e w' => e = .returned (.bool ((decide (l1 = l2) && decide (u1 = u2)) && (F1 == F2))) ∧ Below w.heap.size w w' := by
  have H1 := Lib.hid (fun W (hb : Below w.heap.size w W) => Fracs_any l1 l2 a1 a2 c1 c2 W h1 (r1.to hb) (r3.to hb))
  have H2 := Lib.hid (fun W (hb : Below w.heap.size w W) => Fracs_any u1 u2 b1 b2 d1 d2 W h2 (r2.to hb) (r4.to hb))
  obtain ⟨e1, he1⟩ : ∃ e, decide (l1 = l2) = e := ⟨_, rfl⟩
  obtain ⟨e2, he2⟩ : ∃ e, decide (u1 = u2) = e := ⟨_, rfl⟩
  rw [he1] at H1
  rw [he2] at H2
  rw [he1, he2]
  generalize l1.length = n1 at *
  generalize l2.length = n2 at *
  generalize u1.length = m1 at *
  generalize u2.length = m2 at *
  clear he1 he2 r1 r2 r3 r4 h1 h2
  rcases e1 with _ | _
  · rw [Bool.false_and, Bool.false_and]
    go_enter Try.func54, Try.ntmps54
    go_wp2_with fail
    refine (H1.out _ (bAlloc (bAlloc (bSelf w) _) _)).mono ?_
    rintro e w4 ⟨rfl, hb⟩
    have HB := Lib.hid (bThen (bAlloc (bAlloc (bSelf w) _) _) hb)
    clear hb
    go_wp2_with fail
    go_ret
    exact ⟨rfl, HB.out⟩
  · rw [Bool.true_and]
    go_enter Try.func54, Try.ntmps54
    go_wp2_with fail
    obtain ⟨w3, hw3⟩ : ∃ w3, (w.alloc (.cells (hvV a1 n1 c1 b1 m1 d1 F1) 76)).alloc (.cells (hvV a2 n2 c2 b2 m2 d2 F2) 76) = w3 := ⟨_, rfl⟩
    rw [hw3]
    have K0 : Hid (Blk w3 w.heap.size (hvV a1 n1 c1 b1 m1 d1 F1)) := by subst hw3; exact Lib.hid ((Blk.new _ _ _).alloc _)
    have K1 : Hid (Blk w3 (w.heap.size + 1) (hvV a2 n2 c2 b2 m2 d2 F2)) := by subst hw3; exact Lib.hid (Blk.newAt _ _ _ (by simp))
    have HB : Hid (Below w.heap.size w w3) := by subst hw3; exact Lib.hid (bAlloc (bAlloc (bSelf w) _) _)
    clear hw3
    refine (H1.out _ HB.out).mono ?_
    rintro e w4 ⟨rfl, hb⟩
    replace K0 := Lib.hid (K0.out.to hb)
    replace K1 := Lib.hid (K1.out.to hb)
    replace HB := Lib.hid (bThen HB.out hb)
    clear hb
    obtain ⟨-, k0, -⟩ := K0.out
    obtain ⟨-, k1, -⟩ := K1.out
    go_wp2_with fail
    refine (H2.out _ HB.out).mono ?_
    rintro e w5 ⟨rfl, hb⟩
    replace K0 := Lib.hid (K0.out.to hb)
    replace K1 := Lib.hid (K1.out.to hb)
    replace HB := Lib.hid (bThen HB.out hb)
    clear hb k0 k1
    obtain ⟨-, k0, -⟩ := K0.out
    obtain ⟨-, k1, -⟩ := K1.out
    rcases e2 with _ | _
    · go_wp2_with fail
      go_ret
      exact ⟨rfl, HB.out⟩
    · go_wp2_with fail
      go_ret
      exact ⟨rfl, HB.out⟩

end Go.Proofs.Ytjieojkfpoiabaa

