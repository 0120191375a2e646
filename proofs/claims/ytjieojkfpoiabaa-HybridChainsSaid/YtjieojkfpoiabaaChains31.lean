/-
  Texts of this claim, in their build order: Z5 U1.
-/
import Derived.Test.YtjieojkfpoiabaaChains29
import Derived.Test.YtjieojkfpoiabaaChains30

/-
  The reference's halves of a chain: Halves.
-/
namespace Go.Proofs.Ytjieojkfpoiabaa
open Go.RowKit

theorem fg_take {l : List (Int × Int)} {n i : Nat} (h : i < n) : fg (l.take n) i = fg l i := by
  unfold fg; rw [List.getD_eq_getElem?_getD, List.getD_eq_getElem?_getD, List.getElem?_take_of_lt h]
theorem fg_drop (l : List (Int × Int)) (n i : Nat) : fg (l.drop n) i = fg l (n + i) := by
  unfold fg; rw [List.getD_eq_getElem?_getD, List.getD_eq_getElem?_getD, List.getElem?_drop]
theorem fracs_take {l : List (Int × Int)} {n j : Nat} (h : j < n * 2) : fracs (l.take n) j = fracs l j := by
  unfold fracs; rw [fg_take (by omega)]
theorem fracs_drop (l : List (Int × Int)) (n j : Nat) : fracs (l.drop n) j = fracs l (n * 2 + j) := by
  unfold fracs; rw [fg_drop, show (n * 2 + j) / 2 = n + j / 2 by omega, show (n * 2 + j) % 2 = j % 2 by omega]
theorem Reads.takeF {W : World} {b off : Nat} {l : List (Int × Int)} (h : Reads W (some ⟨b, off, none⟩) (l.length * 2) (fracs l)) {n : Nat} (hn : n ≤ l.length) : Reads W (some ⟨b, off, none⟩) ((l.take n).length * 2) (fracs (l.take n)) := by
  rw [List.length_take, Nat.min_eq_left hn]
  rcases h with h | ⟨b', off', e, hb, hc⟩
  · exact .inl (by omega)
  · cases e
    exact .inr ⟨b, off, rfl, hb, fun i hi => by rw [fracs_take hi]; exact hc i (by omega)⟩
theorem Reads.dropF {W : World} {b off : Nat} {l : List (Int × Int)} (h : Reads W (some ⟨b, off, none⟩) (l.length * 2) (fracs l)) {n : Nat} (hn : n ≤ l.length) : Reads W (some ⟨b, off + n * 2, none⟩) ((l.drop n).length * 2) (fracs (l.drop n)) := by
  rw [List.length_drop]
  rcases h with h | ⟨b', off', e, hb, hc⟩
  · exact .inl (by omega)
  · cases e
    exact .inr ⟨b, off + n * 2, rfl, hb, fun i hi => by rw [fracs_drop, Nat.add_assoc]; exact hc _ (by omega)⟩

/-- What comes of Halves: the halves of displacements, or nothing. -/
def RHPost (o : Option (List (Int × Int))) (m : Nat) (F : Int) (w : World) (e : Ending) (w' : World) : Prop :=
  match o with
  | none => e = .returned (.tuple #[.agg (hvV none 0 0 none 0 0 0), .bool false]) ∧ Below w.heap.size w w'
  | some l => ∃ a1 c1 a2 c2, e = .returned (.tuple #[.agg (hvV a1 (l.take m).length c1 a2 (l.drop m).length c2 F), .bool true]) ∧ Reads w' a1 ((l.take m).length * 2) (fracs (l.take m)) ∧ Reads w' a2 ((l.drop m).length * 2) (fracs (l.drop m)) ∧ Below w.heap.size w w'
theorem refO_len {ks fs : List Int} {L : Int} : ∀ {n k : Nat} {l : List (Int × Int)}, refO ks fs L n k = some l → l.length = n
  | 0, k, l, h => by
    have : l = [] := by simpa [refO] using h.symm
    rw [this]; rfl
  | n + 1, k, l, h => by
    unfold refO at h
    split at h
    · cases hr : refO ks fs L n (k + 1) with
      | none => rw [hr] at h; cases h
      | some m =>
        rw [hr] at h
        have e : l = fr (refN ks fs L (k + 1)) L :: m := by simpa using h.symm
        rw [e, List.length_cons, refO_len hr]
    · cases h

set_option maxHeartbeats 1600000 in
set_option maxRecDepth 100000 in
theorem rHalves_any (ks fs : List Int) (nd : Nat) (a1 a2 : Option Addr) (c1 c2 : Nat) (w : World) (hok : ChOk ks fs) (hnd : nd < ks.length) (hr1 : Reads w a1 ks.length (ints ks)) (hr2 : Reads w a2 fs.length (ints fs)) :
    Calls Try.prog 58 #[.agg (chV a1 ks.length c1 a2 fs.length c2), .int .i64 nd] w (RHPost (refO ks fs (lcmP ks ks.length) ks.length 0) (nd + 1) (fs.drop (nd + 1)).sum w) := by
  have HMV := Lib.hid (fun W (hb : Below w.heap.size w W) => rMoved_any ks fs a1 a2 c1 c2 W hok (hr1.to hb) (hr2.to hb))
  have HAB := Lib.hid (fun W (hb : Below w.heap.size w W) => Above_any fs a1 a2 ks.length c1 c2 (nd + 1) nd W (by omega) (by have := hok.len; have := hok.few; omega) (by have := hok.len; omega) (fun j hj => hok.f1 j (by have := hok.len; omega)) (hr2.to hb))
  rw [upTo_sum (by have := hok.len; omega)] at HAB
  have hfew := hok.few
  have HO := Lib.hid (fun l (h : refO ks fs (lcmP ks ks.length) ks.length 0 = some l) => refO_len h)
  obtain ⟨F, hF⟩ : ∃ F, (fs.drop (nd + 1)).sum = F := ⟨_, rfl⟩
  rw [hF] at HAB ⊢
  obtain ⟨o, ho⟩ : ∃ o, refO ks fs (lcmP ks ks.length) ks.length 0 = o := ⟨_, rfl⟩
  rw [ho] at HMV HO ⊢
  obtain ⟨n, hn⟩ : ∃ n, ks.length = n := ⟨_, rfl⟩
  obtain ⟨m, hm⟩ : ∃ n, fs.length = n := ⟨_, rfl⟩
  rw [hn] at HMV HAB HO hnd hfew ⊢
  rw [hm] at HMV HAB ⊢
  clear hF ho hn hm hok hr1 hr2
  go_enter Try.func58, Try.ntmps58
  go_wp2_with fail
  obtain ⟨w3, hw3⟩ : ∃ w3, (w.alloc (.cells (chV a1 n c1 a2 m c2) 73)).alloc (.cells (hvV none 0 0 none 0 0 0) 76) = w3 := ⟨_, rfl⟩
  rw [hw3]
  have K0 : Hid (Blk w3 w.heap.size (chV a1 n c1 a2 m c2)) := by subst hw3; exact Lib.hid ((Blk.new _ _ _).alloc _)
  have K1 : Hid (Blk w3 (w.heap.size + 1) (hvV none 0 0 none 0 0 0)) := by subst hw3; exact Lib.hid (Blk.newAt _ _ _ (by simp))
  have HB : Hid (Below w.heap.size w w3) := by subst hw3; exact Lib.hid (bAlloc (bAlloc (bSelf w) _) _)
  clear hw3
  refine (HMV.out _ HB.out).mono ?_
  intro e w4 hp
  unfold RMPost at hp
  cases o with
  | none =>
    obtain ⟨rfl, hb⟩ := hp
    replace K1 := Lib.hid (K1.out.to hb)
    replace HB := Lib.hid (bThen HB.out hb)
    clear hb
    obtain ⟨hk1, k1, f1⟩ := K1.out
    go_wp2_with fail
    clear k1 f1
    have FF := (((K1.out.set 0 (.slice none 0 0)).set 1 (.slice none 0 0)).set 2 (.int .i64 0)).2.1
    have F0 := FF 0; have F1 := FF 1; have F2 := FF 2
    clear FF
    refine bodyPost_ret (v := .tuple #[.agg (hvV none 0 0 none 0 0 0), .bool false]) ?_ rfl ?_
    · simp [results, Try.results58, go_sem, F0, F1, F2]
    · exact ⟨rfl, ((HB.out.setCell (p := ⟨w.heap.size + 1, 0, none⟩) (by dsimp only; omega) _).setCell (p := ⟨w.heap.size + 1, 1, none⟩) (by dsimp only; omega) _).setCell (p := ⟨w.heap.size + 1, 2, none⟩) (by dsimp only; omega) _⟩
  | some l =>
    obtain ⟨a, cap, rfl, hcap, hrd, hb, hfr⟩ := hp
    have hll : l.length = n := HO.out l rfl
    have HRD := Lib.hid hrd
    have HFR := Lib.hid (fun p hp => Nat.le_trans (show w.heap.size + 2 ≤ w3.heap.size from K1.out.1) (hfr p hp))
    replace K0 := Lib.hid (K0.out.to hb)
    replace K1 := Lib.hid (K1.out.to hb)
    replace HB := Lib.hid (bThen HB.out hb)
    clear hb hrd hfr
    obtain ⟨b, off, rfl, -, -⟩ := HRD.out.at (k := 0) (by omega)
    have HL1 := Lib.hid (HRD.out.takeF (n := nd + 1) (by omega))
    have HL2 := Lib.hid (HRD.out.dropF (n := nd + 1) (by omega))
    have HT1 : Hid ((l.take (nd + 1)).length = nd + 1) := Lib.hid (by rw [List.length_take]; omega)
    have HT2 : Hid ((l.drop (nd + 1)).length = n - (nd + 1)) := Lib.hid (by rw [List.length_drop, hll])
    rw [hll] at hcap
    have HLL := Lib.hid hll
    clear hll
    go_upto_region 4 with (fail)
    rw [HLL.out]
    by_cases hce : cap = nd + 1
    · subst hce
      have hn0 : n - (nd + 1) = 0 := by omega
      refine wp_region_treeT 12 (by kernel_rfl) (by kernel_rfl) (fun wd hwd => ?_)
      have T := Lib.hid hwd
      clear hwd
      refine WE_yes 0 rfl (by kernel_rfl) (fun _ _ _ _ _ h => h) (by rfl) ?_; apply Exists.intro; refine ⟨fun w1 hb1 => ?_, ?_⟩; (focus ((skip; have hb1 := Lib.hid hb1; go_simp); (try (go_bits; try go_simp)); (try (rw [if_pos (by omega)]; try go_simp)); (first | done | (fail) | (with_reducible rfl) | exact rfl)))
      simp only [Act.put, List.setIfInBounds_toArray, List.set_cons_zero, List.set_cons_succ]
      refine WE_yes 1 rfl (by kernel_rfl) (fun _ _ _ _ _ h => h) (by rfl) ?_; apply Exists.intro; refine ⟨fun w1 hb1 => ?_, ?_⟩; (focus ((skip; have hb1 := Lib.hid hb1; go_simp); (try (go_bits; try go_simp)); (try (rw [if_pos (by omega)]; try go_simp)); (first | done | (fail) | (with_reducible rfl) | exact rfl)))
      simp only [Act.put, List.setIfInBounds_toArray, List.set_cons_zero, List.set_cons_succ]
      refine WE_yes 2 rfl (by kernel_rfl) (fun _ _ _ _ _ h => h) (by rfl) ?_; apply Exists.intro; refine ⟨fun w1 hb1 => ?_, ?_⟩; (focus ((skip; have hb1 := Lib.hid hb1; go_simp); (try (go_bits; try go_simp)); (try (rw [if_pos (by omega)]; try go_simp)); (first | done | (fail) | (with_reducible rfl) | exact rfl)))
      simp only [Act.put, List.setIfInBounds_toArray, List.set_cons_zero, List.set_cons_succ]
      refine WE_yes 3 rfl (by kernel_rfl) (fun _ _ _ _ _ h => h) (by rfl) ?_; apply Exists.intro; refine ⟨fun w1 hb1 => ?_, ?_⟩; (focus ((skip; have hb1 := Lib.hid hb1; go_simp); (try (go_bits; try go_simp)); (try (rw [if_pos (by omega)]; try go_simp)); (first | done | (fail) | (with_reducible rfl) | exact rfl)))
      simp only [Act.put, List.setIfInBounds_toArray, List.set_cons_zero, List.set_cons_succ]
      refine WE_yes 4 rfl (by kernel_rfl) (fun _ _ _ _ _ h => h) (by rfl) ?_; apply Exists.intro; refine ⟨fun w1 hb1 => ?_, ?_⟩; (focus ((skip; have hb1 := Lib.hid hb1; go_simp); (try (go_bits; try go_simp)); (try (rw [if_pos (by omega)]; try go_simp)); (first | done | (fail) | (with_reducible rfl) | exact rfl)))
      simp only [Act.put, List.setIfInBounds_toArray, List.set_cons_zero, List.set_cons_succ]
      refine WE_yes 5 rfl (by kernel_rfl) (fun _ _ _ _ _ h => h) (by rfl) ?_; apply Exists.intro; refine ⟨fun w1 hb1 => ?_, ?_⟩; (focus ((skip; have hb1 := Lib.hid hb1; go_simp); (try (go_bits; try go_simp)); (try (rw [if_pos (by omega)]; try go_simp)); (first | done | (fail) | (with_reducible rfl) | exact rfl)))
      simp only [Act.put, List.setIfInBounds_toArray, List.set_cons_zero, List.set_cons_succ]
      refine WE_yes 6 rfl (by kernel_rfl) (fun _ _ _ _ _ h => h) (by rfl) ?_; apply Exists.intro; refine ⟨fun w1 hb1 => ?_, ?_⟩; (focus ((skip; have hb1 := Lib.hid hb1; go_simp); (try (go_bits; try go_simp)); (try (rw [if_pos (by omega)]; try go_simp)); (first | done | (fail) | (with_reducible rfl) | exact rfl)))
      simp only [Act.put, List.setIfInBounds_toArray, List.set_cons_zero, List.set_cons_succ]
      refine WE_yes 7 rfl (by kernel_rfl) (fun _ _ _ _ _ h => h) (by rfl) ?_; apply Exists.intro; refine ⟨fun w1 hb1 => ?_, ?_⟩; (focus ((skip; have hb1 := Lib.hid hb1; go_simp); (try (go_bits; try go_simp)); (try (rw [if_pos (by omega)]; try go_simp)); (first | done | (fail) | (with_reducible rfl) | exact rfl)))
      simp only [Act.put, List.setIfInBounds_toArray, List.set_cons_zero, List.set_cons_succ]
      refine WE_yes 8 rfl (by kernel_rfl) (fun _ _ _ _ _ h => h) (by rfl) ?_; apply Exists.intro; refine ⟨fun w1 hb1 => ?_, ?_⟩; (focus (((obtain ⟨-, k0, -⟩ := K0.out.to (T.out.trans hb1)); have hb1 := Lib.hid hb1; go_simp); (try (go_bits; try go_simp)); (try (rw [if_pos (by omega)]; try go_simp)); (first | done | (fail) | (with_reducible rfl) | exact rfl)))
      simp only [Act.put, List.setIfInBounds_toArray, List.set_cons_zero, List.set_cons_succ]
      refine WE_yes 9 rfl (by kernel_rfl) (fun _ _ _ _ _ h => h) (by rfl) ?_; apply Exists.intro; refine ⟨fun w1 hb1 => ?_, ?_⟩; (focus ((skip; have hb1 := Lib.hid hb1; go_simp); (try (go_bits; try go_simp)); (try (rw [if_pos (by omega)]; try go_simp)); (first | done | (fail) | (with_reducible rfl) | exact rfl)))
      simp only [Act.put, List.setIfInBounds_toArray, List.set_cons_zero, List.set_cons_succ]
      refine WE_one 10 rfl (by decide) (by kernel_rfl) ?_
      unfold stepE
      go_wp2_with fail
      refine (HAB.out _ (bThen HB.out T.out)).mono ?_
      rintro e w5 ⟨rfl, hb⟩
      have hbd := Lib.hid (hb.mono T.out.size)
      replace T := Lib.hid (T.out.trans hbd.out)
      clear hb
      go_wp2_with fail
      refine ⟨hbd.out, ?_⟩
      clear hbd
      refine WE_yes 11 rfl (by kernel_rfl) (fun _ _ _ _ _ h => h) (by rfl) ?_; apply Exists.intro; refine ⟨fun w1 hb1 => ?_, ?_⟩; (focus ((skip; have hb1 := Lib.hid hb1; go_simp); (try (go_bits; try go_simp)); (try (rw [if_pos (by omega)]; try go_simp)); (first | done | (fail) | (with_reducible rfl) | exact rfl)))
      simp only [Act.put, List.setIfInBounds_toArray, List.set_cons_zero, List.set_cons_succ]
      replace K1 := Lib.hid (K1.out.to T.out)
      replace HB := Lib.hid (bThen HB.out T.out)
      replace HL1 := Lib.hid (HL1.out.to T.out)
      replace HL2 := Lib.hid (HL2.out.to T.out)
      clear T
      refine WE_tail rfl (by kernel_rfl) ?_
      simp only [List.drop_succ_cons, List.drop_zero]
      obtain ⟨hk1, k1, f1⟩ := K1.out
      go_wp2_with fail
      clear k1 f1
      have FF := (((K1.out.set 0 (.slice (some ⟨b, off, none⟩) (nd + 1) (nd + 1))).set 1 (.slice (some ⟨b, off, none⟩) 0 0)).set 2 (.int .i64 F)).2.1
      have F0 := FF 0; have F1 := FF 1; have F2 := FF 2
      clear FF
      refine bodyPost_ret (v := .tuple #[.agg (hvV (some ⟨b, off, none⟩) (nd + 1) (nd + 1) (some ⟨b, off, none⟩) 0 0 F), .bool true]) ?_ rfl ?_
      · simp [results, Try.results58, go_sem, F0, F1, F2]
      · have hne : ∀ b' off', (some ⟨b, off, none⟩ : Option Addr) = some ⟨b', off', none⟩ → b' ≠ w.heap.size + 1 := fun b' off' e => by
          have h1 := HFR.out _ rfl
          cases e
          dsimp only at h1
          omega
        refine ⟨some ⟨b, off, none⟩, (nd + 1), some ⟨b, off, none⟩, 0, by rw [HT1.out, HT2.out, hn0], ?_, .inl (by rw [HT2.out, hn0]), ?_⟩
        · exact ((HL1.out.other _ _ hne).other _ _ hne).other _ _ hne
        · exact ((HB.out.setCell (p := ⟨w.heap.size + 1, 0, none⟩) (by dsimp only; omega) _).setCell (p := ⟨w.heap.size + 1, 1, none⟩) (by dsimp only; omega) _).setCell (p := ⟨w.heap.size + 1, 2, none⟩) (by dsimp only; omega) _
    · skip
      refine wp_region_treeT 12 (by kernel_rfl) (by kernel_rfl) (fun wd hwd => ?_)
      have T := Lib.hid hwd
      clear hwd
      refine WE_yes 0 rfl (by kernel_rfl) (fun _ _ _ _ _ h => h) (by rfl) ?_; apply Exists.intro; refine ⟨fun w1 hb1 => ?_, ?_⟩; (focus ((skip; have hb1 := Lib.hid hb1; go_simp); (try (go_bits; try go_simp)); (try (rw [if_pos (by omega)]; try go_simp)); (first | done | (fail) | (with_reducible rfl) | exact rfl)))
      simp only [Act.put, List.setIfInBounds_toArray, List.set_cons_zero, List.set_cons_succ]
      refine WE_yes 1 rfl (by kernel_rfl) (fun _ _ _ _ _ h => h) (by rfl) ?_; apply Exists.intro; refine ⟨fun w1 hb1 => ?_, ?_⟩; (focus ((skip; have hb1 := Lib.hid hb1; go_simp); (try (go_bits; try go_simp)); (try (rw [if_pos (by omega)]; try go_simp)); (first | done | (fail) | (with_reducible rfl) | exact rfl)))
      simp only [Act.put, List.setIfInBounds_toArray, List.set_cons_zero, List.set_cons_succ]
      refine WE_yes 2 rfl (by kernel_rfl) (fun _ _ _ _ _ h => h) (by rfl) ?_; apply Exists.intro; refine ⟨fun w1 hb1 => ?_, ?_⟩; (focus ((skip; have hb1 := Lib.hid hb1; go_simp); (try (go_bits; try go_simp)); (try (rw [if_pos (by omega)]; try go_simp)); (first | done | (fail) | (with_reducible rfl) | exact rfl)))
      simp only [Act.put, List.setIfInBounds_toArray, List.set_cons_zero, List.set_cons_succ]
      refine WE_yes 3 rfl (by kernel_rfl) (fun _ _ _ _ _ h => h) (by rfl) ?_; apply Exists.intro; refine ⟨fun w1 hb1 => ?_, ?_⟩; (focus ((skip; have hb1 := Lib.hid hb1; go_simp); (try (go_bits; try go_simp)); (try (rw [if_pos (by omega)]; try go_simp)); (first | done | (fail) | (with_reducible rfl) | exact rfl)))
      simp only [Act.put, List.setIfInBounds_toArray, List.set_cons_zero, List.set_cons_succ]
      refine WE_yes 4 rfl (by kernel_rfl) (fun _ _ _ _ _ h => h) (by rfl) ?_; apply Exists.intro; refine ⟨fun w1 hb1 => ?_, ?_⟩; (focus ((skip; have hb1 := Lib.hid hb1; go_simp); (try (go_bits; try go_simp)); (try (rw [if_pos (by omega)]; try go_simp)); (first | done | (fail) | (with_reducible rfl) | exact rfl)))
      simp only [Act.put, List.setIfInBounds_toArray, List.set_cons_zero, List.set_cons_succ]
      refine WE_yes 5 rfl (by kernel_rfl) (fun _ _ _ _ _ h => h) (by rfl) ?_; apply Exists.intro; refine ⟨fun w1 hb1 => ?_, ?_⟩; (focus ((skip; have hb1 := Lib.hid hb1; go_simp); (try (go_bits; try go_simp)); (try (rw [if_pos (by omega)]; try go_simp)); (first | done | (fail) | (with_reducible rfl) | exact rfl)))
      simp only [Act.put, List.setIfInBounds_toArray, List.set_cons_zero, List.set_cons_succ]
      refine WE_yes 6 rfl (by kernel_rfl) (fun _ _ _ _ _ h => h) (by rfl) ?_; apply Exists.intro; refine ⟨fun w1 hb1 => ?_, ?_⟩; (focus ((skip; have hb1 := Lib.hid hb1; go_simp); (try (go_bits; try go_simp)); (try (rw [if_pos (by omega)]; try go_simp)); (first | done | (fail) | (with_reducible rfl) | exact rfl)))
      simp only [Act.put, List.setIfInBounds_toArray, List.set_cons_zero, List.set_cons_succ]
      refine WE_yes 7 rfl (by kernel_rfl) (fun _ _ _ _ _ h => h) (by rfl) ?_; apply Exists.intro; refine ⟨fun w1 hb1 => ?_, ?_⟩; (focus ((skip; have hb1 := Lib.hid hb1; go_simp); (try (go_bits; try go_simp)); (try (rw [if_pos (by omega)]; try go_simp)); (first | done | (fail) | (with_reducible rfl) | exact rfl)))
      simp only [Act.put, List.setIfInBounds_toArray, List.set_cons_zero, List.set_cons_succ]
      refine WE_yes 8 rfl (by kernel_rfl) (fun _ _ _ _ _ h => h) (by rfl) ?_; apply Exists.intro; refine ⟨fun w1 hb1 => ?_, ?_⟩; (focus (((obtain ⟨-, k0, -⟩ := K0.out.to (T.out.trans hb1)); have hb1 := Lib.hid hb1; go_simp); (try (go_bits; try go_simp)); (try (rw [if_pos (by omega)]; try go_simp)); (first | done | (fail) | (with_reducible rfl) | exact rfl)))
      simp only [Act.put, List.setIfInBounds_toArray, List.set_cons_zero, List.set_cons_succ]
      refine WE_yes 9 rfl (by kernel_rfl) (fun _ _ _ _ _ h => h) (by rfl) ?_; apply Exists.intro; refine ⟨fun w1 hb1 => ?_, ?_⟩; (focus ((skip; have hb1 := Lib.hid hb1; go_simp); (try (go_bits; try go_simp)); (try (rw [if_pos (by omega)]; try go_simp)); (first | done | (fail) | (with_reducible rfl) | exact rfl)))
      simp only [Act.put, List.setIfInBounds_toArray, List.set_cons_zero, List.set_cons_succ]
      refine WE_one 10 rfl (by decide) (by kernel_rfl) ?_
      unfold stepE
      go_wp2_with fail
      refine (HAB.out _ (bThen HB.out T.out)).mono ?_
      rintro e w5 ⟨rfl, hb⟩
      have hbd := Lib.hid (hb.mono T.out.size)
      replace T := Lib.hid (T.out.trans hbd.out)
      clear hb
      go_wp2_with fail
      refine ⟨hbd.out, ?_⟩
      clear hbd
      refine WE_yes 11 rfl (by kernel_rfl) (fun _ _ _ _ _ h => h) (by rfl) ?_; apply Exists.intro; refine ⟨fun w1 hb1 => ?_, ?_⟩; (focus ((skip; have hb1 := Lib.hid hb1; go_simp); (try (go_bits; try go_simp)); (try (rw [if_pos (by omega)]; try go_simp)); (first | done | (fail) | (with_reducible rfl) | exact rfl)))
      simp only [Act.put, List.setIfInBounds_toArray, List.set_cons_zero, List.set_cons_succ]
      replace K1 := Lib.hid (K1.out.to T.out)
      replace HB := Lib.hid (bThen HB.out T.out)
      replace HL1 := Lib.hid (HL1.out.to T.out)
      replace HL2 := Lib.hid (HL2.out.to T.out)
      clear T
      refine WE_tail rfl (by kernel_rfl) ?_
      simp only [List.drop_succ_cons, List.drop_zero]
      obtain ⟨hk1, k1, f1⟩ := K1.out
      go_wp2_with fail
      clear k1 f1
      have FF := (((K1.out.set 0 (.slice (some ⟨b, off, none⟩) (nd + 1) cap)).set 1 (.slice (some ⟨b, off + (nd + 1) * 2, none⟩) (n - (nd + 1)) (cap - (nd + 1)))).set 2 (.int .i64 F)).2.1
      have F0 := FF 0; have F1 := FF 1; have F2 := FF 2
      clear FF
      refine bodyPost_ret (v := .tuple #[.agg (hvV (some ⟨b, off, none⟩) (nd + 1) cap (some ⟨b, off + (nd + 1) * 2, none⟩) (n - (nd + 1)) (cap - (nd + 1)) F), .bool true]) ?_ rfl ?_
      · simp [results, Try.results58, go_sem, F0, F1, F2]
      · have hne : ∀ b' off', (some ⟨b, off, none⟩ : Option Addr) = some ⟨b', off', none⟩ → b' ≠ w.heap.size + 1 := fun b' off' e => by
          have h1 := HFR.out _ rfl
          cases e
          dsimp only at h1
          omega
        have hne2 : ∀ o' b' off', (some ⟨b, o', none⟩ : Option Addr) = some ⟨b', off', none⟩ → b' ≠ w.heap.size + 1 := fun o' b' off' e => by
          have h1 := HFR.out _ rfl
          cases e
          dsimp only at h1
          omega
        refine ⟨some ⟨b, off, none⟩, cap, some ⟨b, off + (nd + 1) * 2, none⟩, (cap - (nd + 1)), by rw [HT1.out, HT2.out], ?_, ((HL2.out.other _ _ (hne2 _)).other _ _ (hne2 _)).other _ _ (hne2 _), ?_⟩
        · exact ((HL1.out.other _ _ hne).other _ _ hne).other _ _ hne
        · exact ((HB.out.setCell (p := ⟨w.heap.size + 1, 0, none⟩) (by dsimp only; omega) _).setCell (p := ⟨w.heap.size + 1, 1, none⟩) (by dsimp only; omega) _).setCell (p := ⟨w.heap.size + 1, 2, none⟩) (by dsimp only; omega) _

end Go.Proofs.Ytjieojkfpoiabaa

/-
  nodeErr and HalvesOf of package hybrid.
-/
namespace Go.Proofs.Ytjieojkfpoiabaa
open Go.RowKit

set_option maxHeartbeats 400000 in
set_option maxRecDepth 100000 in
theorem CloneF_any (ms : List (Int × Int)) (ad : Addr) (cap : Nat) (w : World) (hfew : ms.length ≤ 100000) (hr : Reads w (some ad) (ms.length * 2) (fracs ms)) :
    Calls Try.prog 101 #[.slice (some ad) ms.length cap] w fun e w' => FPost ms w e w' := by
  have HR := Lib.hid hr
  clear hr
  have HN := Lib.hid (Reads.newsF (HR.out.alloc (.cells #[] 86)))
  have hcl := Lib.hid (fcells_len ms)
  have hq : (binOp .eql 74 (.slice (some ad) ms.length cap) (.slice none 0 0)).run Try.prog w = .ok (.bool false) w := Lib.run_eql_slice_nil w _ _ (some ad) ms.length cap 0 0 Try.underlying74
  go_enter Try.func101, Try.ntmps101
  go_wp2_with (at_builtin; refine wpList_app w.heap.size rtFrac rfl (.tmp 5) (.tmp 6) rfl (.slice (some ⟨w.heap.size, 0, none⟩) 0 0) 0 [] rfl (World.ownsRow_lit w #[] 0 (Nat.le_refl _) (by decide) rfl) ad ms.length cap (fcells ms) rfl hcl.out HN.out (onesF _) (by unfold maxLen; omega) (by omega) (by simp) ?_; intro v' w2 hown' hgrow _ hwhere; have HO := Lib.hid hown'; have HBB : Hid (Below w.heap.size w w2) := Lib.hid ((bAlloc (bSelf w) _).grown hgrow (by simp) (fun k e => by cases e; exact Nat.le_refl _)); clear hown' hgrow hwhere)
  go_ret
  have hrow := HO.out
  rw [Nat.zero_add, List.nil_append] at hrow
  obtain ⟨a', cap', rfl, hcp, hrd, hfr⟩ := Reads.of_row (f := fracs ms) hrow (fun i hi => fcells_get ms i hi)
  exact ⟨a', cap', rfl, hcp, hrd, HBB.out, hfr⟩

/-- The error of a chain and a node. -/
def ndE (ks fs : List Int) (node : Int) : Int := firstE [(chkC ks fs).2, unl (decide (0 ≤ node) && decide (node ≤ (ks.length : Int) - 1)) 6]

set_option maxHeartbeats 800000 in
set_option maxRecDepth 100000 in
theorem nodeErr_any (ks fs : List Int) (node : Int) (a1 a2 : Option Addr) (c1 c2 : Nat) (w : World) (h1 : ks.length ≤ 1000) (hr1 : Reads w a1 ks.length (ints ks)) (hr2 : Reads w a2 fs.length (ints fs)) :
    Calls Try.prog 100 #[.agg (chV a1 ks.length c1 a2 fs.length c2), .int .i64 node] w fun e w' => e = .returned (.int .i64 (ndE ks fs node)) ∧ Below w.heap.size w w' := by
  have HC := Lib.hid (fun W (hb : Below w.heap.size w W) => chainErr_any ks fs a1 a2 c1 c2 W h1 (hr1.to hb) (hr2.to hb))
  unfold ndE
  obtain ⟨ce, hce⟩ : ∃ ce, (chkC ks fs).2 = ce := ⟨_, rfl⟩
  rw [hce] at HC ⊢
  obtain ⟨n, hn⟩ : ∃ n, ks.length = n := ⟨_, rfl⟩
  obtain ⟨m, hm⟩ : ∃ n, fs.length = n := ⟨_, rfl⟩
  rw [hn] at HC h1 ⊢
  rw [hm] at HC ⊢
  clear hce hn hm hr1 hr2
  go_enter Try.func100, Try.ntmps100
  go_wp2_with fail
  obtain ⟨W, hW⟩ : ∃ W, w.alloc (.cells (chV a1 n c1 a2 m c2) 73) = W := ⟨_, rfl⟩
  rw [hW]
  have K0 : Hid (Blk W w.heap.size (chV a1 n c1 a2 m c2)) := by subst hW; exact Lib.hid (Blk.new _ _ _)
  have HB : Hid (Below w.heap.size w W) := by subst hW; exact Lib.hid (bAlloc (bSelf w) _)
  clear hW
  refine wp_region_quiet_tail 9 (fun w' => Below (World.heap W).size (W) w') (by kernel_rfl) (by kernel_rfl) (Below.refl _ _).drew ?_
  simp only [List.take_succ_cons, List.take_zero, List.drop_succ_cons, List.drop_zero]
  refine WQ.out ?_
  repeat (first | (refine WQ_no (by rfl) ?_; (simp only [Act.put, List.setIfInBounds_toArray, List.set_cons_zero, List.set_cons_succ])) | (refine WQ_yes (by rfl) ?_; apply Exists.intro; refine ⟨fun w1 hb1 => ?_, ?_⟩; (focus (((obtain ⟨-, k0, -⟩ := K0.out.to hb1); have hb1 := Lib.hid hb1; go_simp); (try (go_bits; try go_simp)); (try (rw [if_pos (by omega)]; try go_simp)); (first | done | ((first | (go_at_call 98; refine (HC.out _ (bThen HB.out hb1.out)).mono ?_; rintro e w' ⟨rfl, hb2⟩; exact ⟨rfl, bThen hb1.out hb2⟩) | (go_at_call 77; refine (within_any _ _ _ _).mono ?_; rintro e w' ⟨rfl, rfl⟩; exact ⟨rfl, hb1.out⟩) | (go_at_call 76; refine (unless_any _ _ _).mono ?_; rintro e w' ⟨rfl, rfl⟩; exact ⟨rfl, hb1.out⟩))) | (with_reducible rfl) | exact rfl))); (simp only [Act.put, List.setIfInBounds_toArray, List.set_cons_zero, List.set_cons_succ])))
  refine WQ_nil ?_
  intro w1 hb1
  replace HB := Lib.hid (bThen HB.out hb1)
  clear hb1
  go_wp2_with fail
  refine (first2_new _ _ _ _ (by simp)).mono ?_
  rintro e w' ⟨rfl, rfl⟩
  go_wp2_with fail
  go_ret
  exact ⟨rfl, bAlloc HB.out _⟩

end Go.Proofs.Ytjieojkfpoiabaa

