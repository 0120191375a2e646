/-
  Texts of this claim, in their build order: U2.
-/
import Derived.Test.YtmofgejoogikfaaTop19

/-
  HalvesOf of package hybrid.
-/
namespace Go.Proofs.Ytmofgejoogikfaa
open Go.RowKit

theorem Reads.dropI {W : World} {b off : Nat} {l : List Int} (h : Reads W (some ⟨b, off, none⟩) l.length (ints l)) {n : Nat} (hn : n ≤ l.length) : Reads W (some ⟨b, off + n, none⟩) (l.drop n).length (ints (l.drop n)) := by
  rw [List.length_drop]
  rcases h with h | ⟨b', off', e, hb, hc⟩
  · exact .inl (by omega)
  · cases e
    exact .inr ⟨b, off + n, rfl, hb, fun i hi => by
      rw [Nat.add_assoc, hc _ (by omega)]
      unfold ints
      rw [gi_dropk]⟩
theorem ndE_zero {ks fs : List Int} {node : Int} (h : ndE ks fs node = 0) : (chkC ks fs).2 = 0 ∧ 0 ≤ node ∧ node ≤ (ks.length : Int) - 1 := by
  have e := firstE_zero (show firstE [_, _] = 0 from h)
  have e1 := e _ (List.mem_cons_self ..)
  have e2 := unl_zero (by decide) (e _ (List.mem_cons_of_mem _ (List.mem_cons_self ..)))
  simp only [Bool.and_eq_true, decide_eq_true_eq] at e2
  exact ⟨e1, e2⟩
theorem movO_len {ks fs : List Int} : ∀ {n k : Nat} {p : Int × Int} {l : List (Int × Int)}, movO ks fs n k p = some l → l.length = n
  | 0, k, p, l, h => by
    have : l = [] := by simpa [movO] using h.symm
    rw [this]; rfl
  | n + 1, k, p, l, h => by
    unfold movO at h
    split at h
    · cases hr : movO ks fs n (k + 1) (nextAt p (ownF ks fs k)) with
      | none => rw [hr] at h; cases h
      | some m =>
        rw [hr] at h
        have e : l = nextAt p (ownF ks fs k) :: m := by simpa using h.symm
        rw [e, List.length_cons, movO_len hr]
    · cases h

set_option maxHeartbeats 800000 in
set_option maxRecDepth 100000 in
theorem HalvesOf_err (ks fs : List Int) (node : Int) (a1 a2 : Option Addr) (c1 c2 : Nat) (w : World) (h1 : ks.length ≤ 1000) (hr1 : Reads w a1 ks.length (ints ks)) (hr2 : Reads w a2 fs.length (ints fs)) (he : ndE ks fs node ≠ 0) :
    Calls Try.prog 13 #[.agg (chV a1 ks.length c1 a2 fs.length c2), .int .i64 node] w fun e w' => e = .returned (.tuple #[.agg (hvV none 0 0 none 0 0 0), .int .i64 (ndE ks fs node)]) ∧ Below w.heap.size w w' := by
  have HC := Lib.hid (fun W (hb : Below w.heap.size w W) => nodeErr_any ks fs node a1 a2 c1 c2 W h1 (hr1.to hb) (hr2.to hb))
  obtain ⟨ce, hce⟩ : ∃ ce, ndE ks fs node = ce := ⟨_, rfl⟩
  rw [hce] at he HC ⊢
  have hne : (ce != 0) = true := by simpa using he
  clear hr1 hr2 he hce
  go_enter Try.func13, Try.ntmps13
  go_wp2_with fail
  obtain ⟨w3, hw3⟩ : ∃ w3, (w.alloc (.cells (chV a1 ks.length c1 a2 fs.length c2) 24)).alloc (.cells (hvV none 0 0 none 0 0 0) 45) = w3 := ⟨_, rfl⟩
  rw [hw3]
  have K1 : Hid (Blk w3 (w.heap.size + 1) (hvV none 0 0 none 0 0 0)) := by subst hw3; exact Lib.hid (Blk.newAt _ _ _ (by simp))
  have HB : Hid (Below w.heap.size w w3) := by subst hw3; exact Lib.hid (bAlloc (bAlloc (bSelf w) _) _)
  clear hw3
  refine (HC.out _ HB.out).mono ?_
  rintro e w4 ⟨rfl, hb⟩
  replace K1 := Lib.hid (K1.out.to hb)
  replace HB := Lib.hid (bThen HB.out hb)
  clear hb
  obtain ⟨hk1, k1, f1⟩ := K1.out
  go_wp2_with fail
  clear k1 f1
  have FF := (((K1.out.set 0 (.slice none 0 0)).set 1 (.slice none 0 0)).set 2 (.int .i64 0)).2.1
  have F0 := FF 0; have F1 := FF 1; have F2 := FF 2
  clear FF
  refine bodyPost_ret (v := .tuple #[.agg (hvV none 0 0 none 0 0 0), .int .i64 ce]) ?_ rfl ?_
  · simp [results, Try.results13, go_sem, F0, F1, F2]
  · exact ⟨rfl, ((HB.out.setCell (p := ⟨w.heap.size + 1, 0, none⟩) (by dsimp only; omega) _).setCell (p := ⟨w.heap.size + 1, 1, none⟩) (by dsimp only; omega) _).setCell (p := ⟨w.heap.size + 1, 2, none⟩) (by dsimp only; omega) _⟩

/-- What comes of HalvesOf where chain and node are valid. -/
def HOPost (o : Option (List (Int × Int))) (m : Nat) (F : Int) (w : World) (e : Ending) (w' : World) : Prop :=
  match o with
  | none => e = .returned (.tuple #[.agg (hvV none 0 0 none 0 0 0), .int .i64 8]) ∧ Below w.heap.size w w'
  | some l => ∃ a1 c1 a2 c2, e = .returned (.tuple #[.agg (hvV a1 (l.take m).length c1 a2 (l.drop m).length c2 F), .int .i64 0]) ∧ (l.take m).length ≤ c1 ∧ (l.drop m).length ≤ c2 ∧ Reads w' a1 ((l.take m).length * 2) (fracs (l.take m)) ∧ Reads w' a2 ((l.drop m).length * 2) (fracs (l.drop m)) ∧ Below w.heap.size w w' ∧ (∀ p, a1 = some p → w.heap.size ≤ p.block) ∧ (∀ p, a2 = some p → w.heap.size ≤ p.block)

set_option maxHeartbeats 3200000 in
set_option maxRecDepth 100000 in
theorem HalvesOf_ok (ks fs : List Int) (nd : Nat) (a1 a2 : Option Addr) (c1 c2 : Nat) (w : World) (h1 : ks.length ≤ 1000) (hc2 : fs.length ≤ c2) (hr1 : Reads w a1 ks.length (ints ks)) (hr2 : Reads w a2 fs.length (ints fs)) (he : ndE ks fs nd = 0) :
    Calls Try.prog 13 #[.agg (chV a1 ks.length c1 a2 fs.length c2), .int .i64 nd] w (HOPost (movO ks fs ks.length 0 (0, 1)) (nd + 1) (fs.drop (nd + 1)).sum w) := by
  obtain ⟨hchk, -, hndi⟩ := ndE_zero he
  have hnd : nd < ks.length := by omega
  have hok := chkC_zero hchk
  have HC := Lib.hid (fun W (hb : Below w.heap.size w W) => nodeErr_any ks fs nd a1 a2 c1 c2 W h1 (hr1.to hb) (hr2.to hb))
  have HM := Lib.hid (fun W (hb : Below w.heap.size w W) => moved_any ks fs a1 a2 c1 c2 W hok hc2 (hr1.to hb) (hr2.to hb))
  rw [he] at HC
  have hfew := hok.few
  have hlen := hok.len
  obtain ⟨b2, o2, rfl, hb2', -⟩ := hr2.at (k := nd) (by omega)
  have HSUM : Hid (c2 ≠ nd + 1 → ∀ W, Below w.heap.size w W → Calls Try.prog 58 #[.slice (some ⟨b2, o2 + (nd + 1), none⟩) (ks.length - (nd + 1)) (c2 - (nd + 1))] W fun e w' => e = .returned (.int .i64 (fs.drop (nd + 1)).sum) ∧ W = w') := Lib.hid (fun _ W hb => by
    have := sum_any (fs.drop (nd + 1)) (some ⟨b2, o2 + (nd + 1), none⟩) (c2 - (nd + 1)) W (by rw [List.length_drop]; omega) (fun k hk => by rw [gi_dropk]; rw [List.length_drop] at hk; exact hok.f1 _ (by omega)) (Reads.dropI (hr2.to hb) (by omega))
    rw [List.length_drop, hlen] at this
    exact this)
  have HSUM0 : Hid (c2 = nd + 1 → ∀ W, Below w.heap.size w W → Calls Try.prog 58 #[.slice (some ⟨b2, o2, none⟩) 0 0] W fun e w' => e = .returned (.int .i64 (fs.drop (nd + 1)).sum) ∧ W = w') := Lib.hid (fun hc W hb => by
    have := sum_any [] (some ⟨b2, o2, none⟩) 0 W (by simp) (fun k hk => by simp at hk) (.inl rfl)
    have e : fs.drop (nd + 1) = [] := List.drop_of_length_le (by omega)
    rw [e]
    exact this)
  have HO := Lib.hid (fun l (h : movO ks fs ks.length 0 (0, 1) = some l) => movO_len h)
  obtain ⟨F, hF⟩ : ∃ F, (fs.drop (nd + 1)).sum = F := ⟨_, rfl⟩
  rw [hF] at HSUM HSUM0 ⊢
  unfold MovPost at HM
  obtain ⟨o, ho⟩ : ∃ o, movO ks fs ks.length 0 (0, 1) = o := ⟨_, rfl⟩
  rw [ho] at HM HO ⊢
  obtain ⟨n, hn⟩ : ∃ n, ks.length = n := ⟨_, rfl⟩
  rw [hlen, hn] at HC HM ⊢
  rw [hn] at HSUM HO hnd hfew
  rw [hlen, hn] at hc2
  clear hF ho hn hok hr1 hr2 hchk hndi he hlen h1 hb2'
  go_enter Try.func13, Try.ntmps13
  go_wp2_with fail
  obtain ⟨w3, hw3⟩ : ∃ w3, (w.alloc (.cells (chV a1 n c1 (some ⟨b2, o2, none⟩) n c2) 24)).alloc (.cells (hvV none 0 0 none 0 0 0) 45) = w3 := ⟨_, rfl⟩
  rw [hw3]
  have K0 : Hid (Blk w3 w.heap.size (chV a1 n c1 (some ⟨b2, o2, none⟩) n c2)) := by subst hw3; exact Lib.hid ((Blk.new _ _ _).alloc _)
  have K1 : Hid (Blk w3 (w.heap.size + 1) (hvV none 0 0 none 0 0 0)) := by subst hw3; exact Lib.hid (Blk.newAt _ _ _ (by simp))
  have HB : Hid (Below w.heap.size w w3) := by subst hw3; exact Lib.hid (bAlloc (bAlloc (bSelf w) _) _)
  clear hw3
  refine (HC.out _ HB.out).mono ?_
  rintro e w4 ⟨rfl, hb⟩
  replace K0 := Lib.hid (K0.out.to hb)
  replace K1 := Lib.hid (K1.out.to hb)
  replace HB := Lib.hid (bThen HB.out hb)
  clear hb
  obtain ⟨-, k0, -⟩ := K0.out
  go_wp2_with fail
  refine (HM.out _ HB.out).mono ?_
  intro e w5 hp
  clear k0
  cases o with
  | none =>
    obtain ⟨rfl, hb⟩ := hp
    replace K1 := Lib.hid (K1.out.to hb)
    replace HB := Lib.hid (bThen HB.out hb)
    clear hb
    obtain ⟨hk1, k1, f1⟩ := K1.out
    go_wp2_with fail
    clear k1 f1
    have FF := (((K1.out.set 0 (.slice none 0 0)).set 1 (.slice none 0 0)).set 2 (.int .i64 0)).2.1
    have F0 := FF 0; have F1 := FF 1; have F2 := FF 2
    clear FF
    refine bodyPost_ret (v := .tuple #[.agg (hvV none 0 0 none 0 0 0), .int .i64 8]) ?_ rfl ?_
    · simp [results, Try.results13, go_sem, F0, F1, F2]
    · exact ⟨rfl, ((HB.out.setCell (p := ⟨w.heap.size + 1, 0, none⟩) (by dsimp only; omega) _).setCell (p := ⟨w.heap.size + 1, 1, none⟩) (by dsimp only; omega) _).setCell (p := ⟨w.heap.size + 1, 2, none⟩) (by dsimp only; omega) _⟩
  | some l =>
    obtain ⟨a, cap, rfl, hcap, hrd, hb, hfr⟩ := hp
    have hll : l.length = n := HO.out l rfl
    have HRD := Lib.hid hrd
    replace K0 := Lib.hid (K0.out.to hb)
    replace K1 := Lib.hid (K1.out.to hb)
    replace HB := Lib.hid (bThen HB.out hb)
    clear hb hrd hfr
    obtain ⟨b, off, rfl, -, -⟩ := HRD.out.at (k := 0) (by omega)
    have hT1 : (l.take (nd + 1)).length = nd + 1 := by rw [List.length_take]; omega
    have hT2 : (l.drop (nd + 1)).length = n - (nd + 1) := by rw [List.length_drop, hll]
    have HCL1 := Lib.hid (fun W c (hb : Below w5.heap.size w5 W) => CloneF_any (l.take (nd + 1)) ⟨b, off, none⟩ c W (by omega) ((HRD.out.takeF (n := nd + 1) (by omega)).to hb))
    have HCL2 := Lib.hid (fun W c (hb : Below w5.heap.size w5 W) => CloneF_any (l.drop (nd + 1)) ⟨b, off + (nd + 1) * 2, none⟩ c W (by omega) ((HRD.out.dropF (n := nd + 1) (by omega)).to hb))
    have HCL0 := Lib.hid (fun (hz : (l.drop (nd + 1)).length = 0) W c (_ : Below w5.heap.size w5 W) => CloneF_any (l.drop (nd + 1)) ⟨b, off, none⟩ c W (by omega) (.inl (by omega)))
    unfold FPost at HCL1 HCL2 HCL0
    rw [hT1] at HCL1
    rw [hT2] at HCL2 HCL0
    have HEND : Hid (∀ e w', (∃ a1 c1 a2 c2, e = .returned (.tuple #[.agg (hvV a1 (nd + 1) c1 a2 (n - (nd + 1)) c2 F), .int .i64 0]) ∧ nd + 1 ≤ c1 ∧ n - (nd + 1) ≤ c2 ∧ Reads w' a1 ((nd + 1) * 2) (fracs (l.take (nd + 1))) ∧ Reads w' a2 ((n - (nd + 1)) * 2) (fracs (l.drop (nd + 1))) ∧ Below w.heap.size w w' ∧ (∀ p, a1 = some p → w.heap.size ≤ p.block) ∧ (∀ p, a2 = some p → w.heap.size ≤ p.block)) → HOPost (some l) (nd + 1) F w e w') := Lib.hid (fun e w' h => by
      unfold HOPost
      dsimp only
      rw [hT1, hT2]
      exact h)
    obtain ⟨lt, hlt⟩ : ∃ x, l.take (nd + 1) = x := ⟨_, rfl⟩
    obtain ⟨ld, hld⟩ : ∃ x, l.drop (nd + 1) = x := ⟨_, rfl⟩
    rw [hlt] at HCL1 HEND
    rw [hld] at HCL2 HCL0 HEND
    rw [hll] at hcap
    have HLL := Lib.hid hll
    clear hll hT1 hT2 hlt hld HRD
    have hs5 : w.heap.size + 1 < w5.heap.size := K1.out.1
    go_upto_region 7 with (fail)
    rw [HLL.out]
    by_cases hce : cap = nd + 1
    · subst hce
      have hn0 : n - (nd + 1) = 0 := by omega
      have HC0 := Lib.hid (HCL0.out hn0)
      rw [hn0] at HC0 HEND HSUM
      clear HCL2 HCL0
      by_cases hce2 : c2 = nd + 1
      · have hce3 := hce2
        subst hce3
        refine wp_region_treeT 17 (by kernel_rfl) (by kernel_rfl) (fun wd hwd => ?_)
        have T := Lib.hid hwd
        clear hwd
        refine WE_yes 0 rfl (by kernel_rfl) (fun _ _ _ _ _ h => h) (by rfl) ?_; apply Exists.intro; refine ⟨fun w1 hb1 => ?_, ?_⟩; (focus ((skip; have hb1 := Lib.hid hb1; go_simp); (try (go_bits; try go_simp)); (try (rw [if_pos (by omega)]; try go_simp)); (first | done | (fail) | (with_reducible rfl) | exact rfl)))
        simp only [Act.put, List.setIfInBounds_toArray, List.set_cons_zero, List.set_cons_succ]
        refine WE_yes 1 rfl (by kernel_rfl) (fun _ _ _ _ _ h => h) (by rfl) ?_; apply Exists.intro; refine ⟨fun w1 hb1 => ?_, ?_⟩; (focus ((skip; have hb1 := Lib.hid hb1; go_simp); (try (go_bits; try go_simp)); (try (rw [if_pos (by omega)]; try go_simp)); (first | done | (fail) | (with_reducible rfl) | exact rfl)))
        simp only [Act.put, List.setIfInBounds_toArray, List.set_cons_zero, List.set_cons_succ]
        refine WE_yes 2 rfl (by kernel_rfl) (fun _ _ _ _ _ h => h) (by rfl) ?_; apply Exists.intro; refine ⟨fun w1 hb1 => ?_, ?_⟩; (focus ((skip; have hb1 := Lib.hid hb1; go_simp); (try (go_bits; try go_simp)); (try (rw [if_pos (by omega)]; try go_simp)); (first | done | (fail) | (with_reducible rfl) | exact rfl)))
        simp only [Act.put, List.setIfInBounds_toArray, List.set_cons_zero, List.set_cons_succ]
        refine WE_yes 3 rfl (by kernel_rfl) (fun _ _ _ _ _ h => h) (by rfl) ?_; apply Exists.intro; refine ⟨fun w1 hb1 => ?_, ?_⟩; (focus ((skip; have hb1 := Lib.hid hb1; go_simp); (try (go_bits; try go_simp)); (try (rw [if_pos (by omega)]; try go_simp)); (first | done | (fail) | (with_reducible rfl) | exact rfl)))
        simp only [Act.put, List.setIfInBounds_toArray, List.set_cons_zero, List.set_cons_succ]
        refine WE_yes 5 rfl (by kernel_rfl) (fun _ _ _ _ _ h => h) (by rfl) ?_; apply Exists.intro; refine ⟨fun w1 hb1 => ?_, ?_⟩; (focus ((skip; have hb1 := Lib.hid hb1; go_simp); (try (go_bits; try go_simp)); (try (rw [if_pos (by omega)]; try go_simp)); (first | done | (fail) | (with_reducible rfl) | exact rfl)))
        simp only [Act.put, List.setIfInBounds_toArray, List.set_cons_zero, List.set_cons_succ]
        refine WE_yes 6 rfl (by kernel_rfl) (fun _ _ _ _ _ h => h) (by rfl) ?_; apply Exists.intro; refine ⟨fun w1 hb1 => ?_, ?_⟩; (focus ((skip; have hb1 := Lib.hid hb1; go_simp); (try (go_bits; try go_simp)); (try (rw [if_pos (by omega)]; try go_simp)); (first | done | (fail) | (with_reducible rfl) | exact rfl)))
        simp only [Act.put, List.setIfInBounds_toArray, List.set_cons_zero, List.set_cons_succ]
        refine WE_yes 7 rfl (by kernel_rfl) (fun _ _ _ _ _ h => h) (by rfl) ?_; apply Exists.intro; refine ⟨fun w1 hb1 => ?_, ?_⟩; (focus ((skip; have hb1 := Lib.hid hb1; go_simp); (try (go_bits; try go_simp)); (try (rw [if_pos (by omega)]; try go_simp)); (first | done | (fail) | (with_reducible rfl) | exact rfl)))
        simp only [Act.put, List.setIfInBounds_toArray, List.set_cons_zero, List.set_cons_succ]
        refine WE_yes 8 rfl (by kernel_rfl) (fun _ _ _ _ _ h => h) (by rfl) ?_; apply Exists.intro; refine ⟨fun w1 hb1 => ?_, ?_⟩; (focus ((skip; have hb1 := Lib.hid hb1; go_simp); (try (go_bits; try go_simp)); (try (rw [if_pos (by omega)]; try go_simp)); (first | done | (fail) | (with_reducible rfl) | exact rfl)))
        simp only [Act.put, List.setIfInBounds_toArray, List.set_cons_zero, List.set_cons_succ]
        refine WE_yes 10 rfl (by kernel_rfl) (fun _ _ _ _ _ h => h) (by rfl) ?_; apply Exists.intro; refine ⟨fun w1 hb1 => ?_, ?_⟩; (focus ((skip; have hb1 := Lib.hid hb1; go_simp); (try (go_bits; try go_simp)); (try (rw [if_pos (by omega)]; try go_simp)); (first | done | (fail) | (with_reducible rfl) | exact rfl)))
        simp only [Act.put, List.setIfInBounds_toArray, List.set_cons_zero, List.set_cons_succ]
        refine WE_yes 11 rfl (by kernel_rfl) (fun _ _ _ _ _ h => h) (by rfl) ?_; apply Exists.intro; refine ⟨fun w1 hb1 => ?_, ?_⟩; (focus (((obtain ⟨-, k0, -⟩ := K0.out.to (T.out.trans hb1)); have hb1 := Lib.hid hb1; go_simp); (try (go_bits; try go_simp)); (try (rw [if_pos (by omega)]; try go_simp)); (first | done | (fail) | (with_reducible rfl) | exact rfl)))
        simp only [Act.put, List.setIfInBounds_toArray, List.set_cons_zero, List.set_cons_succ]
        refine WE_yes 12 rfl (by kernel_rfl) (fun _ _ _ _ _ h => h) (by rfl) ?_; apply Exists.intro; refine ⟨fun w1 hb1 => ?_, ?_⟩; (focus ((skip; have hb1 := Lib.hid hb1; go_simp); (try (go_bits; try go_simp)); (try (rw [if_pos (by omega)]; try go_simp)); (first | done | (fail) | (with_reducible rfl) | exact rfl)))
        simp only [Act.put, List.setIfInBounds_toArray, List.set_cons_zero, List.set_cons_succ]
        refine WE_yes 13 rfl (by kernel_rfl) (fun _ _ _ _ _ h => h) (by rfl) ?_; apply Exists.intro; refine ⟨fun w1 hb1 => ?_, ?_⟩; (focus ((skip; have hb1 := Lib.hid hb1; go_simp); (try (go_bits; try go_simp)); (try (rw [if_pos (by omega)]; try go_simp)); (first | done | (fail) | (with_reducible rfl) | exact rfl)))
        simp only [Act.put, List.setIfInBounds_toArray, List.set_cons_zero, List.set_cons_succ]
        refine WE_yes 14 rfl (by kernel_rfl) (fun _ _ _ _ _ h => h) (by rfl) ?_; apply Exists.intro; refine ⟨fun w1 hb1 => ?_, ?_⟩; (focus ((skip; have hb1 := Lib.hid hb1; go_simp); (try (go_bits; try go_simp)); (try (rw [if_pos (by omega)]; try go_simp)); (first | done | (fail) | (with_reducible rfl) | exact rfl)))
        simp only [Act.put, List.setIfInBounds_toArray, List.set_cons_zero, List.set_cons_succ]
        refine WE_one 4 rfl (by decide) (by kernel_rfl) ?_
        unfold stepE
        go_wp2_with fail
        refine (HCL1.out _ _ T.out).mono ?_
        rintro e w6 ⟨b3, c3, rfl, hc3, hr3, hb, hp3⟩
        have HR3 := Lib.hid hr3
        have HP3 := Lib.hid (fun p hp => Nat.le_trans T.out.size (hp3 p hp))
        have hbd := Lib.hid (hb.mono T.out.size)
        replace T := Lib.hid (T.out.trans hbd.out)
        clear hb hr3 hp3
        go_wp2_with fail
        refine ⟨hbd.out, ?_⟩
        clear hbd
        refine WE_one 9 rfl (by decide) (by kernel_rfl) ?_
        unfold stepE
        go_wp2_with fail
        refine (HC0.out _ _ T.out).mono ?_
        rintro e w7 ⟨b4, c4, rfl, hc4, hr4, hb, hp4⟩
        have HR4 := Lib.hid hr4
        replace HR3 := Lib.hid (HR3.out.to hb)
        have HP4 := Lib.hid (fun p hp => Nat.le_trans T.out.size (hp4 p hp))
        have hbd := Lib.hid (hb.mono T.out.size)
        replace T := Lib.hid (T.out.trans hbd.out)
        clear hb hr4 hp4
        go_wp2_with fail
        refine ⟨hbd.out, ?_⟩
        clear hbd
        refine WE_one 15 rfl (by decide) (by kernel_rfl) ?_
        unfold stepE
        go_wp2_with fail
        refine (HSUM0.out hce2 _ (bThen HB.out T.out)).mono ?_
        rintro e w8 ⟨rfl, rfl⟩
        go_wp2_with fail
        refine ⟨Below.refl _ _, ?_⟩
        refine WE_yes 16 rfl (by kernel_rfl) (fun _ _ _ _ _ h => h) (by rfl) ?_; apply Exists.intro; refine ⟨fun w1 hb1 => ?_, ?_⟩; (focus ((skip; have hb1 := Lib.hid hb1; go_simp); (try (go_bits; try go_simp)); (try (rw [if_pos (by omega)]; try go_simp)); (first | done | (fail) | (with_reducible rfl) | exact rfl)))
        simp only [Act.put, List.setIfInBounds_toArray, List.set_cons_zero, List.set_cons_succ]
        replace K1 := Lib.hid (K1.out.to T.out)
        replace HB := Lib.hid (bThen HB.out T.out)
        clear T
        refine WE_tail rfl (by kernel_rfl) ?_
        simp only [List.drop_succ_cons, List.drop_zero]
        obtain ⟨hk1, k1, f1⟩ := K1.out
        go_wp2_with fail
        clear k1 f1
        have FF := (((K1.out.set 0 (.slice b3 (nd + 1) c3)).set 1 (.slice b4 0 c4)).set 2 (.int .i64 F)).2.1
        have F0 := FF 0; have F1 := FF 1; have F2 := FF 2
        clear FF
        refine bodyPost_ret (v := .tuple #[.agg (hvV b3 (nd + 1) c3 b4 0 c4 F), .int .i64 0]) ?_ rfl (HEND.out _ _ ⟨b3, c3, b4, c4, rfl, hc3, hc4, ?_, ?_, ?_, fun p hp => Nat.le_trans (by omega) (HP3.out p hp), fun p hp => Nat.le_trans (by omega) (HP4.out p hp)⟩)
        · simp [results, Try.results13, go_sem, F0, F1, F2]
        · have hne : ∀ b' off', b3 = some ⟨b', off', none⟩ → b' ≠ w.heap.size + 1 := fun b' off' e => by have h1 := HP3.out _ e; dsimp only at h1; omega
          exact ((HR3.out.other _ _ hne).other _ _ hne).other _ _ hne
        · have hne : ∀ b' off', b4 = some ⟨b', off', none⟩ → b' ≠ w.heap.size + 1 := fun b' off' e => by have h1 := HP4.out _ e; dsimp only at h1; omega
          exact ((HR4.out.other _ _ hne).other _ _ hne).other _ _ hne
        · exact ((HB.out.setCell (p := ⟨w.heap.size + 1, 0, none⟩) (by dsimp only; omega) _).setCell (p := ⟨w.heap.size + 1, 1, none⟩) (by dsimp only; omega) _).setCell (p := ⟨w.heap.size + 1, 2, none⟩) (by dsimp only; omega) _
      · skip
        refine wp_region_treeT 17 (by kernel_rfl) (by kernel_rfl) (fun wd hwd => ?_)
        have T := Lib.hid hwd
        clear hwd
        refine WE_yes 0 rfl (by kernel_rfl) (fun _ _ _ _ _ h => h) (by rfl) ?_; apply Exists.intro; refine ⟨fun w1 hb1 => ?_, ?_⟩; (focus ((skip; have hb1 := Lib.hid hb1; go_simp); (try (go_bits; try go_simp)); (try (rw [if_pos (by omega)]; try go_simp)); (first | done | (fail) | (with_reducible rfl) | exact rfl)))
        simp only [Act.put, List.setIfInBounds_toArray, List.set_cons_zero, List.set_cons_succ]
        refine WE_yes 1 rfl (by kernel_rfl) (fun _ _ _ _ _ h => h) (by rfl) ?_; apply Exists.intro; refine ⟨fun w1 hb1 => ?_, ?_⟩; (focus ((skip; have hb1 := Lib.hid hb1; go_simp); (try (go_bits; try go_simp)); (try (rw [if_pos (by omega)]; try go_simp)); (first | done | (fail) | (with_reducible rfl) | exact rfl)))
        simp only [Act.put, List.setIfInBounds_toArray, List.set_cons_zero, List.set_cons_succ]
        refine WE_yes 2 rfl (by kernel_rfl) (fun _ _ _ _ _ h => h) (by rfl) ?_; apply Exists.intro; refine ⟨fun w1 hb1 => ?_, ?_⟩; (focus ((skip; have hb1 := Lib.hid hb1; go_simp); (try (go_bits; try go_simp)); (try (rw [if_pos (by omega)]; try go_simp)); (first | done | (fail) | (with_reducible rfl) | exact rfl)))
        simp only [Act.put, List.setIfInBounds_toArray, List.set_cons_zero, List.set_cons_succ]
        refine WE_yes 3 rfl (by kernel_rfl) (fun _ _ _ _ _ h => h) (by rfl) ?_; apply Exists.intro; refine ⟨fun w1 hb1 => ?_, ?_⟩; (focus ((skip; have hb1 := Lib.hid hb1; go_simp); (try (go_bits; try go_simp)); (try (rw [if_pos (by omega)]; try go_simp)); (first | done | (fail) | (with_reducible rfl) | exact rfl)))
        simp only [Act.put, List.setIfInBounds_toArray, List.set_cons_zero, List.set_cons_succ]
        refine WE_yes 5 rfl (by kernel_rfl) (fun _ _ _ _ _ h => h) (by rfl) ?_; apply Exists.intro; refine ⟨fun w1 hb1 => ?_, ?_⟩; (focus ((skip; have hb1 := Lib.hid hb1; go_simp); (try (go_bits; try go_simp)); (try (rw [if_pos (by omega)]; try go_simp)); (first | done | (fail) | (with_reducible rfl) | exact rfl)))
        simp only [Act.put, List.setIfInBounds_toArray, List.set_cons_zero, List.set_cons_succ]
        refine WE_yes 6 rfl (by kernel_rfl) (fun _ _ _ _ _ h => h) (by rfl) ?_; apply Exists.intro; refine ⟨fun w1 hb1 => ?_, ?_⟩; (focus ((skip; have hb1 := Lib.hid hb1; go_simp); (try (go_bits; try go_simp)); (try (rw [if_pos (by omega)]; try go_simp)); (first | done | (fail) | (with_reducible rfl) | exact rfl)))
        simp only [Act.put, List.setIfInBounds_toArray, List.set_cons_zero, List.set_cons_succ]
        refine WE_yes 7 rfl (by kernel_rfl) (fun _ _ _ _ _ h => h) (by rfl) ?_; apply Exists.intro; refine ⟨fun w1 hb1 => ?_, ?_⟩; (focus ((skip; have hb1 := Lib.hid hb1; go_simp); (try (go_bits; try go_simp)); (try (rw [if_pos (by omega)]; try go_simp)); (first | done | (fail) | (with_reducible rfl) | exact rfl)))
        simp only [Act.put, List.setIfInBounds_toArray, List.set_cons_zero, List.set_cons_succ]
        refine WE_yes 8 rfl (by kernel_rfl) (fun _ _ _ _ _ h => h) (by rfl) ?_; apply Exists.intro; refine ⟨fun w1 hb1 => ?_, ?_⟩; (focus ((skip; have hb1 := Lib.hid hb1; go_simp); (try (go_bits; try go_simp)); (try (rw [if_pos (by omega)]; try go_simp)); (first | done | (fail) | (with_reducible rfl) | exact rfl)))
        simp only [Act.put, List.setIfInBounds_toArray, List.set_cons_zero, List.set_cons_succ]
        refine WE_yes 10 rfl (by kernel_rfl) (fun _ _ _ _ _ h => h) (by rfl) ?_; apply Exists.intro; refine ⟨fun w1 hb1 => ?_, ?_⟩; (focus ((skip; have hb1 := Lib.hid hb1; go_simp); (try (go_bits; try go_simp)); (try (rw [if_pos (by omega)]; try go_simp)); (first | done | (fail) | (with_reducible rfl) | exact rfl)))
        simp only [Act.put, List.setIfInBounds_toArray, List.set_cons_zero, List.set_cons_succ]
        refine WE_yes 11 rfl (by kernel_rfl) (fun _ _ _ _ _ h => h) (by rfl) ?_; apply Exists.intro; refine ⟨fun w1 hb1 => ?_, ?_⟩; (focus (((obtain ⟨-, k0, -⟩ := K0.out.to (T.out.trans hb1)); have hb1 := Lib.hid hb1; go_simp); (try (go_bits; try go_simp)); (try (rw [if_pos (by omega)]; try go_simp)); (first | done | (fail) | (with_reducible rfl) | exact rfl)))
        simp only [Act.put, List.setIfInBounds_toArray, List.set_cons_zero, List.set_cons_succ]
        refine WE_yes 12 rfl (by kernel_rfl) (fun _ _ _ _ _ h => h) (by rfl) ?_; apply Exists.intro; refine ⟨fun w1 hb1 => ?_, ?_⟩; (focus ((skip; have hb1 := Lib.hid hb1; go_simp); (try (go_bits; try go_simp)); (try (rw [if_pos (by omega)]; try go_simp)); (first | done | (fail) | (with_reducible rfl) | exact rfl)))
        simp only [Act.put, List.setIfInBounds_toArray, List.set_cons_zero, List.set_cons_succ]
        refine WE_yes 13 rfl (by kernel_rfl) (fun _ _ _ _ _ h => h) (by rfl) ?_; apply Exists.intro; refine ⟨fun w1 hb1 => ?_, ?_⟩; (focus ((skip; have hb1 := Lib.hid hb1; go_simp); (try (go_bits; try go_simp)); (try (rw [if_pos (by omega)]; try go_simp)); (first | done | (fail) | (with_reducible rfl) | exact rfl)))
        simp only [Act.put, List.setIfInBounds_toArray, List.set_cons_zero, List.set_cons_succ]
        refine WE_yes 14 rfl (by kernel_rfl) (fun _ _ _ _ _ h => h) (by rfl) ?_; apply Exists.intro; refine ⟨fun w1 hb1 => ?_, ?_⟩; (focus ((skip; have hb1 := Lib.hid hb1; go_simp); (try (go_bits; try go_simp)); (try (rw [if_pos (by omega)]; try go_simp)); (first | done | (fail) | (with_reducible rfl) | exact rfl)))
        simp only [Act.put, List.setIfInBounds_toArray, List.set_cons_zero, List.set_cons_succ]
        refine WE_one 4 rfl (by decide) (by kernel_rfl) ?_
        unfold stepE
        go_wp2_with fail
        refine (HCL1.out _ _ T.out).mono ?_
        rintro e w6 ⟨b3, c3, rfl, hc3, hr3, hb, hp3⟩
        have HR3 := Lib.hid hr3
        have HP3 := Lib.hid (fun p hp => Nat.le_trans T.out.size (hp3 p hp))
        have hbd := Lib.hid (hb.mono T.out.size)
        replace T := Lib.hid (T.out.trans hbd.out)
        clear hb hr3 hp3
        go_wp2_with fail
        refine ⟨hbd.out, ?_⟩
        clear hbd
        refine WE_one 9 rfl (by decide) (by kernel_rfl) ?_
        unfold stepE
        go_wp2_with fail
        refine (HC0.out _ _ T.out).mono ?_
        rintro e w7 ⟨b4, c4, rfl, hc4, hr4, hb, hp4⟩
        have HR4 := Lib.hid hr4
        replace HR3 := Lib.hid (HR3.out.to hb)
        have HP4 := Lib.hid (fun p hp => Nat.le_trans T.out.size (hp4 p hp))
        have hbd := Lib.hid (hb.mono T.out.size)
        replace T := Lib.hid (T.out.trans hbd.out)
        clear hb hr4 hp4
        go_wp2_with fail
        refine ⟨hbd.out, ?_⟩
        clear hbd
        refine WE_one 15 rfl (by decide) (by kernel_rfl) ?_
        unfold stepE
        go_wp2_with fail
        refine (HSUM.out hce2 _ (bThen HB.out T.out)).mono ?_
        rintro e w8 ⟨rfl, rfl⟩
        go_wp2_with fail
        refine ⟨Below.refl _ _, ?_⟩
        refine WE_yes 16 rfl (by kernel_rfl) (fun _ _ _ _ _ h => h) (by rfl) ?_; apply Exists.intro; refine ⟨fun w1 hb1 => ?_, ?_⟩; (focus ((skip; have hb1 := Lib.hid hb1; go_simp); (try (go_bits; try go_simp)); (try (rw [if_pos (by omega)]; try go_simp)); (first | done | (fail) | (with_reducible rfl) | exact rfl)))
        simp only [Act.put, List.setIfInBounds_toArray, List.set_cons_zero, List.set_cons_succ]
        replace K1 := Lib.hid (K1.out.to T.out)
        replace HB := Lib.hid (bThen HB.out T.out)
        clear T
        refine WE_tail rfl (by kernel_rfl) ?_
        simp only [List.drop_succ_cons, List.drop_zero]
        obtain ⟨hk1, k1, f1⟩ := K1.out
        go_wp2_with fail
        clear k1 f1
        have FF := (((K1.out.set 0 (.slice b3 (nd + 1) c3)).set 1 (.slice b4 0 c4)).set 2 (.int .i64 F)).2.1
        have F0 := FF 0; have F1 := FF 1; have F2 := FF 2
        clear FF
        refine bodyPost_ret (v := .tuple #[.agg (hvV b3 (nd + 1) c3 b4 0 c4 F), .int .i64 0]) ?_ rfl (HEND.out _ _ ⟨b3, c3, b4, c4, rfl, hc3, hc4, ?_, ?_, ?_, fun p hp => Nat.le_trans (by omega) (HP3.out p hp), fun p hp => Nat.le_trans (by omega) (HP4.out p hp)⟩)
        · simp [results, Try.results13, go_sem, F0, F1, F2]
        · have hne : ∀ b' off', b3 = some ⟨b', off', none⟩ → b' ≠ w.heap.size + 1 := fun b' off' e => by have h1 := HP3.out _ e; dsimp only at h1; omega
          exact ((HR3.out.other _ _ hne).other _ _ hne).other _ _ hne
        · have hne : ∀ b' off', b4 = some ⟨b', off', none⟩ → b' ≠ w.heap.size + 1 := fun b' off' e => by have h1 := HP4.out _ e; dsimp only at h1; omega
          exact ((HR4.out.other _ _ hne).other _ _ hne).other _ _ hne
        · exact ((HB.out.setCell (p := ⟨w.heap.size + 1, 0, none⟩) (by dsimp only; omega) _).setCell (p := ⟨w.heap.size + 1, 1, none⟩) (by dsimp only; omega) _).setCell (p := ⟨w.heap.size + 1, 2, none⟩) (by dsimp only; omega) _
    · clear HCL0
      by_cases hce2 : c2 = nd + 1
      · have hce3 := hce2
        subst hce3
        have hn0 : n - (nd + 1) = 0 := by omega
        rw [hn0] at HCL2 HEND
        refine wp_region_treeT 17 (by kernel_rfl) (by kernel_rfl) (fun wd hwd => ?_)
        have T := Lib.hid hwd
        clear hwd
        refine WE_yes 0 rfl (by kernel_rfl) (fun _ _ _ _ _ h => h) (by rfl) ?_; apply Exists.intro; refine ⟨fun w1 hb1 => ?_, ?_⟩; (focus ((skip; have hb1 := Lib.hid hb1; go_simp); (try (go_bits; try go_simp)); (try (rw [if_pos (by omega)]; try go_simp)); (first | done | (fail) | (with_reducible rfl) | exact rfl)))
        simp only [Act.put, List.setIfInBounds_toArray, List.set_cons_zero, List.set_cons_succ]
        refine WE_yes 1 rfl (by kernel_rfl) (fun _ _ _ _ _ h => h) (by rfl) ?_; apply Exists.intro; refine ⟨fun w1 hb1 => ?_, ?_⟩; (focus ((skip; have hb1 := Lib.hid hb1; go_simp); (try (go_bits; try go_simp)); (try (rw [if_pos (by omega)]; try go_simp)); (first | done | (fail) | (with_reducible rfl) | exact rfl)))
        simp only [Act.put, List.setIfInBounds_toArray, List.set_cons_zero, List.set_cons_succ]
        refine WE_yes 2 rfl (by kernel_rfl) (fun _ _ _ _ _ h => h) (by rfl) ?_; apply Exists.intro; refine ⟨fun w1 hb1 => ?_, ?_⟩; (focus ((skip; have hb1 := Lib.hid hb1; go_simp); (try (go_bits; try go_simp)); (try (rw [if_pos (by omega)]; try go_simp)); (first | done | (fail) | (with_reducible rfl) | exact rfl)))
        simp only [Act.put, List.setIfInBounds_toArray, List.set_cons_zero, List.set_cons_succ]
        refine WE_yes 3 rfl (by kernel_rfl) (fun _ _ _ _ _ h => h) (by rfl) ?_; apply Exists.intro; refine ⟨fun w1 hb1 => ?_, ?_⟩; (focus ((skip; have hb1 := Lib.hid hb1; go_simp); (try (go_bits; try go_simp)); (try (rw [if_pos (by omega)]; try go_simp)); (first | done | (fail) | (with_reducible rfl) | exact rfl)))
        simp only [Act.put, List.setIfInBounds_toArray, List.set_cons_zero, List.set_cons_succ]
        refine WE_yes 5 rfl (by kernel_rfl) (fun _ _ _ _ _ h => h) (by rfl) ?_; apply Exists.intro; refine ⟨fun w1 hb1 => ?_, ?_⟩; (focus ((skip; have hb1 := Lib.hid hb1; go_simp); (try (go_bits; try go_simp)); (try (rw [if_pos (by omega)]; try go_simp)); (first | done | (fail) | (with_reducible rfl) | exact rfl)))
        simp only [Act.put, List.setIfInBounds_toArray, List.set_cons_zero, List.set_cons_succ]
        refine WE_yes 6 rfl (by kernel_rfl) (fun _ _ _ _ _ h => h) (by rfl) ?_; apply Exists.intro; refine ⟨fun w1 hb1 => ?_, ?_⟩; (focus ((skip; have hb1 := Lib.hid hb1; go_simp); (try (go_bits; try go_simp)); (try (rw [if_pos (by omega)]; try go_simp)); (first | done | (fail) | (with_reducible rfl) | exact rfl)))
        simp only [Act.put, List.setIfInBounds_toArray, List.set_cons_zero, List.set_cons_succ]
        refine WE_yes 7 rfl (by kernel_rfl) (fun _ _ _ _ _ h => h) (by rfl) ?_; apply Exists.intro; refine ⟨fun w1 hb1 => ?_, ?_⟩; (focus ((skip; have hb1 := Lib.hid hb1; go_simp); (try (go_bits; try go_simp)); (try (rw [if_pos (by omega)]; try go_simp)); (first | done | (fail) | (with_reducible rfl) | exact rfl)))
        simp only [Act.put, List.setIfInBounds_toArray, List.set_cons_zero, List.set_cons_succ]
        refine WE_yes 8 rfl (by kernel_rfl) (fun _ _ _ _ _ h => h) (by rfl) ?_; apply Exists.intro; refine ⟨fun w1 hb1 => ?_, ?_⟩; (focus ((skip; have hb1 := Lib.hid hb1; go_simp); (try (go_bits; try go_simp)); (try (rw [if_pos (by omega)]; try go_simp)); (first | done | (fail) | (with_reducible rfl) | exact rfl)))
        simp only [Act.put, List.setIfInBounds_toArray, List.set_cons_zero, List.set_cons_succ]
        refine WE_yes 10 rfl (by kernel_rfl) (fun _ _ _ _ _ h => h) (by rfl) ?_; apply Exists.intro; refine ⟨fun w1 hb1 => ?_, ?_⟩; (focus ((skip; have hb1 := Lib.hid hb1; go_simp); (try (go_bits; try go_simp)); (try (rw [if_pos (by omega)]; try go_simp)); (first | done | (fail) | (with_reducible rfl) | exact rfl)))
        simp only [Act.put, List.setIfInBounds_toArray, List.set_cons_zero, List.set_cons_succ]
        refine WE_yes 11 rfl (by kernel_rfl) (fun _ _ _ _ _ h => h) (by rfl) ?_; apply Exists.intro; refine ⟨fun w1 hb1 => ?_, ?_⟩; (focus (((obtain ⟨-, k0, -⟩ := K0.out.to (T.out.trans hb1)); have hb1 := Lib.hid hb1; go_simp); (try (go_bits; try go_simp)); (try (rw [if_pos (by omega)]; try go_simp)); (first | done | (fail) | (with_reducible rfl) | exact rfl)))
        simp only [Act.put, List.setIfInBounds_toArray, List.set_cons_zero, List.set_cons_succ]
        refine WE_yes 12 rfl (by kernel_rfl) (fun _ _ _ _ _ h => h) (by rfl) ?_; apply Exists.intro; refine ⟨fun w1 hb1 => ?_, ?_⟩; (focus ((skip; have hb1 := Lib.hid hb1; go_simp); (try (go_bits; try go_simp)); (try (rw [if_pos (by omega)]; try go_simp)); (first | done | (fail) | (with_reducible rfl) | exact rfl)))
        simp only [Act.put, List.setIfInBounds_toArray, List.set_cons_zero, List.set_cons_succ]
        refine WE_yes 13 rfl (by kernel_rfl) (fun _ _ _ _ _ h => h) (by rfl) ?_; apply Exists.intro; refine ⟨fun w1 hb1 => ?_, ?_⟩; (focus ((skip; have hb1 := Lib.hid hb1; go_simp); (try (go_bits; try go_simp)); (try (rw [if_pos (by omega)]; try go_simp)); (first | done | (fail) | (with_reducible rfl) | exact rfl)))
        simp only [Act.put, List.setIfInBounds_toArray, List.set_cons_zero, List.set_cons_succ]
        refine WE_yes 14 rfl (by kernel_rfl) (fun _ _ _ _ _ h => h) (by rfl) ?_; apply Exists.intro; refine ⟨fun w1 hb1 => ?_, ?_⟩; (focus ((skip; have hb1 := Lib.hid hb1; go_simp); (try (go_bits; try go_simp)); (try (rw [if_pos (by omega)]; try go_simp)); (first | done | (fail) | (with_reducible rfl) | exact rfl)))
        simp only [Act.put, List.setIfInBounds_toArray, List.set_cons_zero, List.set_cons_succ]
        refine WE_one 4 rfl (by decide) (by kernel_rfl) ?_
        unfold stepE
        go_wp2_with fail
        refine (HCL1.out _ _ T.out).mono ?_
        rintro e w6 ⟨b3, c3, rfl, hc3, hr3, hb, hp3⟩
        have HR3 := Lib.hid hr3
        have HP3 := Lib.hid (fun p hp => Nat.le_trans T.out.size (hp3 p hp))
        have hbd := Lib.hid (hb.mono T.out.size)
        replace T := Lib.hid (T.out.trans hbd.out)
        clear hb hr3 hp3
        go_wp2_with fail
        refine ⟨hbd.out, ?_⟩
        clear hbd
        refine WE_one 9 rfl (by decide) (by kernel_rfl) ?_
        unfold stepE
        go_wp2_with fail
        refine (HCL2.out _ _ T.out).mono ?_
        rintro e w7 ⟨b4, c4, rfl, hc4, hr4, hb, hp4⟩
        have HR4 := Lib.hid hr4
        replace HR3 := Lib.hid (HR3.out.to hb)
        have HP4 := Lib.hid (fun p hp => Nat.le_trans T.out.size (hp4 p hp))
        have hbd := Lib.hid (hb.mono T.out.size)
        replace T := Lib.hid (T.out.trans hbd.out)
        clear hb hr4 hp4
        go_wp2_with fail
        refine ⟨hbd.out, ?_⟩
        clear hbd
        refine WE_one 15 rfl (by decide) (by kernel_rfl) ?_
        unfold stepE
        go_wp2_with fail
        refine (HSUM0.out hce2 _ (bThen HB.out T.out)).mono ?_
        rintro e w8 ⟨rfl, rfl⟩
        go_wp2_with fail
        refine ⟨Below.refl _ _, ?_⟩
        refine WE_yes 16 rfl (by kernel_rfl) (fun _ _ _ _ _ h => h) (by rfl) ?_; apply Exists.intro; refine ⟨fun w1 hb1 => ?_, ?_⟩; (focus ((skip; have hb1 := Lib.hid hb1; go_simp); (try (go_bits; try go_simp)); (try (rw [if_pos (by omega)]; try go_simp)); (first | done | (fail) | (with_reducible rfl) | exact rfl)))
        simp only [Act.put, List.setIfInBounds_toArray, List.set_cons_zero, List.set_cons_succ]
        replace K1 := Lib.hid (K1.out.to T.out)
        replace HB := Lib.hid (bThen HB.out T.out)
        clear T
        refine WE_tail rfl (by kernel_rfl) ?_
        simp only [List.drop_succ_cons, List.drop_zero]
        obtain ⟨hk1, k1, f1⟩ := K1.out
        go_wp2_with fail
        clear k1 f1
        have FF := (((K1.out.set 0 (.slice b3 (nd + 1) c3)).set 1 (.slice b4 0 c4)).set 2 (.int .i64 F)).2.1
        have F0 := FF 0; have F1 := FF 1; have F2 := FF 2
        clear FF
        refine bodyPost_ret (v := .tuple #[.agg (hvV b3 (nd + 1) c3 b4 0 c4 F), .int .i64 0]) ?_ rfl (HEND.out _ _ ⟨b3, c3, b4, c4, rfl, hc3, hc4, ?_, ?_, ?_, fun p hp => Nat.le_trans (by omega) (HP3.out p hp), fun p hp => Nat.le_trans (by omega) (HP4.out p hp)⟩)
        · simp [results, Try.results13, go_sem, F0, F1, F2]
        · have hne : ∀ b' off', b3 = some ⟨b', off', none⟩ → b' ≠ w.heap.size + 1 := fun b' off' e => by have h1 := HP3.out _ e; dsimp only at h1; omega
          exact ((HR3.out.other _ _ hne).other _ _ hne).other _ _ hne
        · have hne : ∀ b' off', b4 = some ⟨b', off', none⟩ → b' ≠ w.heap.size + 1 := fun b' off' e => by have h1 := HP4.out _ e; dsimp only at h1; omega
          exact ((HR4.out.other _ _ hne).other _ _ hne).other _ _ hne
        · exact ((HB.out.setCell (p := ⟨w.heap.size + 1, 0, none⟩) (by dsimp only; omega) _).setCell (p := ⟨w.heap.size + 1, 1, none⟩) (by dsimp only; omega) _).setCell (p := ⟨w.heap.size + 1, 2, none⟩) (by dsimp only; omega) _
      · skip
        refine wp_region_treeT 17 (by kernel_rfl) (by kernel_rfl) (fun wd hwd => ?_)
        have T := Lib.hid hwd
        clear hwd
        refine WE_yes 0 rfl (by kernel_rfl) (fun _ _ _ _ _ h => h) (by rfl) ?_; apply Exists.intro; refine ⟨fun w1 hb1 => ?_, ?_⟩; (focus ((skip; have hb1 := Lib.hid hb1; go_simp); (try (go_bits; try go_simp)); (try (rw [if_pos (by omega)]; try go_simp)); (first | done | (fail) | (with_reducible rfl) | exact rfl)))
        simp only [Act.put, List.setIfInBounds_toArray, List.set_cons_zero, List.set_cons_succ]
        refine WE_yes 1 rfl (by kernel_rfl) (fun _ _ _ _ _ h => h) (by rfl) ?_; apply Exists.intro; refine ⟨fun w1 hb1 => ?_, ?_⟩; (focus ((skip; have hb1 := Lib.hid hb1; go_simp); (try (go_bits; try go_simp)); (try (rw [if_pos (by omega)]; try go_simp)); (first | done | (fail) | (with_reducible rfl) | exact rfl)))
        simp only [Act.put, List.setIfInBounds_toArray, List.set_cons_zero, List.set_cons_succ]
        refine WE_yes 2 rfl (by kernel_rfl) (fun _ _ _ _ _ h => h) (by rfl) ?_; apply Exists.intro; refine ⟨fun w1 hb1 => ?_, ?_⟩; (focus ((skip; have hb1 := Lib.hid hb1; go_simp); (try (go_bits; try go_simp)); (try (rw [if_pos (by omega)]; try go_simp)); (first | done | (fail) | (with_reducible rfl) | exact rfl)))
        simp only [Act.put, List.setIfInBounds_toArray, List.set_cons_zero, List.set_cons_succ]
        refine WE_yes 3 rfl (by kernel_rfl) (fun _ _ _ _ _ h => h) (by rfl) ?_; apply Exists.intro; refine ⟨fun w1 hb1 => ?_, ?_⟩; (focus ((skip; have hb1 := Lib.hid hb1; go_simp); (try (go_bits; try go_simp)); (try (rw [if_pos (by omega)]; try go_simp)); (first | done | (fail) | (with_reducible rfl) | exact rfl)))
        simp only [Act.put, List.setIfInBounds_toArray, List.set_cons_zero, List.set_cons_succ]
        refine WE_yes 5 rfl (by kernel_rfl) (fun _ _ _ _ _ h => h) (by rfl) ?_; apply Exists.intro; refine ⟨fun w1 hb1 => ?_, ?_⟩; (focus ((skip; have hb1 := Lib.hid hb1; go_simp); (try (go_bits; try go_simp)); (try (rw [if_pos (by omega)]; try go_simp)); (first | done | (fail) | (with_reducible rfl) | exact rfl)))
        simp only [Act.put, List.setIfInBounds_toArray, List.set_cons_zero, List.set_cons_succ]
        refine WE_yes 6 rfl (by kernel_rfl) (fun _ _ _ _ _ h => h) (by rfl) ?_; apply Exists.intro; refine ⟨fun w1 hb1 => ?_, ?_⟩; (focus ((skip; have hb1 := Lib.hid hb1; go_simp); (try (go_bits; try go_simp)); (try (rw [if_pos (by omega)]; try go_simp)); (first | done | (fail) | (with_reducible rfl) | exact rfl)))
        simp only [Act.put, List.setIfInBounds_toArray, List.set_cons_zero, List.set_cons_succ]
        refine WE_yes 7 rfl (by kernel_rfl) (fun _ _ _ _ _ h => h) (by rfl) ?_; apply Exists.intro; refine ⟨fun w1 hb1 => ?_, ?_⟩; (focus ((skip; have hb1 := Lib.hid hb1; go_simp); (try (go_bits; try go_simp)); (try (rw [if_pos (by omega)]; try go_simp)); (first | done | (fail) | (with_reducible rfl) | exact rfl)))
        simp only [Act.put, List.setIfInBounds_toArray, List.set_cons_zero, List.set_cons_succ]
        refine WE_yes 8 rfl (by kernel_rfl) (fun _ _ _ _ _ h => h) (by rfl) ?_; apply Exists.intro; refine ⟨fun w1 hb1 => ?_, ?_⟩; (focus ((skip; have hb1 := Lib.hid hb1; go_simp); (try (go_bits; try go_simp)); (try (rw [if_pos (by omega)]; try go_simp)); (first | done | (fail) | (with_reducible rfl) | exact rfl)))
        simp only [Act.put, List.setIfInBounds_toArray, List.set_cons_zero, List.set_cons_succ]
        refine WE_yes 10 rfl (by kernel_rfl) (fun _ _ _ _ _ h => h) (by rfl) ?_; apply Exists.intro; refine ⟨fun w1 hb1 => ?_, ?_⟩; (focus ((skip; have hb1 := Lib.hid hb1; go_simp); (try (go_bits; try go_simp)); (try (rw [if_pos (by omega)]; try go_simp)); (first | done | (fail) | (with_reducible rfl) | exact rfl)))
        simp only [Act.put, List.setIfInBounds_toArray, List.set_cons_zero, List.set_cons_succ]
        refine WE_yes 11 rfl (by kernel_rfl) (fun _ _ _ _ _ h => h) (by rfl) ?_; apply Exists.intro; refine ⟨fun w1 hb1 => ?_, ?_⟩; (focus (((obtain ⟨-, k0, -⟩ := K0.out.to (T.out.trans hb1)); have hb1 := Lib.hid hb1; go_simp); (try (go_bits; try go_simp)); (try (rw [if_pos (by omega)]; try go_simp)); (first | done | (fail) | (with_reducible rfl) | exact rfl)))
        simp only [Act.put, List.setIfInBounds_toArray, List.set_cons_zero, List.set_cons_succ]
        refine WE_yes 12 rfl (by kernel_rfl) (fun _ _ _ _ _ h => h) (by rfl) ?_; apply Exists.intro; refine ⟨fun w1 hb1 => ?_, ?_⟩; (focus ((skip; have hb1 := Lib.hid hb1; go_simp); (try (go_bits; try go_simp)); (try (rw [if_pos (by omega)]; try go_simp)); (first | done | (fail) | (with_reducible rfl) | exact rfl)))
        simp only [Act.put, List.setIfInBounds_toArray, List.set_cons_zero, List.set_cons_succ]
        refine WE_yes 13 rfl (by kernel_rfl) (fun _ _ _ _ _ h => h) (by rfl) ?_; apply Exists.intro; refine ⟨fun w1 hb1 => ?_, ?_⟩; (focus ((skip; have hb1 := Lib.hid hb1; go_simp); (try (go_bits; try go_simp)); (try (rw [if_pos (by omega)]; try go_simp)); (first | done | (fail) | (with_reducible rfl) | exact rfl)))
        simp only [Act.put, List.setIfInBounds_toArray, List.set_cons_zero, List.set_cons_succ]
        refine WE_yes 14 rfl (by kernel_rfl) (fun _ _ _ _ _ h => h) (by rfl) ?_; apply Exists.intro; refine ⟨fun w1 hb1 => ?_, ?_⟩; (focus ((skip; have hb1 := Lib.hid hb1; go_simp); (try (go_bits; try go_simp)); (try (rw [if_pos (by omega)]; try go_simp)); (first | done | (fail) | (with_reducible rfl) | exact rfl)))
        simp only [Act.put, List.setIfInBounds_toArray, List.set_cons_zero, List.set_cons_succ]
        refine WE_one 4 rfl (by decide) (by kernel_rfl) ?_
        unfold stepE
        go_wp2_with fail
        refine (HCL1.out _ _ T.out).mono ?_
        rintro e w6 ⟨b3, c3, rfl, hc3, hr3, hb, hp3⟩
        have HR3 := Lib.hid hr3
        have HP3 := Lib.hid (fun p hp => Nat.le_trans T.out.size (hp3 p hp))
        have hbd := Lib.hid (hb.mono T.out.size)
        replace T := Lib.hid (T.out.trans hbd.out)
        clear hb hr3 hp3
        go_wp2_with fail
        refine ⟨hbd.out, ?_⟩
        clear hbd
        refine WE_one 9 rfl (by decide) (by kernel_rfl) ?_
        unfold stepE
        go_wp2_with fail
        refine (HCL2.out _ _ T.out).mono ?_
        rintro e w7 ⟨b4, c4, rfl, hc4, hr4, hb, hp4⟩
        have HR4 := Lib.hid hr4
        replace HR3 := Lib.hid (HR3.out.to hb)
        have HP4 := Lib.hid (fun p hp => Nat.le_trans T.out.size (hp4 p hp))
        have hbd := Lib.hid (hb.mono T.out.size)
        replace T := Lib.hid (T.out.trans hbd.out)
        clear hb hr4 hp4
        go_wp2_with fail
        refine ⟨hbd.out, ?_⟩
        clear hbd
        refine WE_one 15 rfl (by decide) (by kernel_rfl) ?_
        unfold stepE
        go_wp2_with fail
        refine (HSUM.out hce2 _ (bThen HB.out T.out)).mono ?_
        rintro e w8 ⟨rfl, rfl⟩
        go_wp2_with fail
        refine ⟨Below.refl _ _, ?_⟩
        refine WE_yes 16 rfl (by kernel_rfl) (fun _ _ _ _ _ h => h) (by rfl) ?_; apply Exists.intro; refine ⟨fun w1 hb1 => ?_, ?_⟩; (focus ((skip; have hb1 := Lib.hid hb1; go_simp); (try (go_bits; try go_simp)); (try (rw [if_pos (by omega)]; try go_simp)); (first | done | (fail) | (with_reducible rfl) | exact rfl)))
        simp only [Act.put, List.setIfInBounds_toArray, List.set_cons_zero, List.set_cons_succ]
        replace K1 := Lib.hid (K1.out.to T.out)
        replace HB := Lib.hid (bThen HB.out T.out)
        clear T
        refine WE_tail rfl (by kernel_rfl) ?_
        simp only [List.drop_succ_cons, List.drop_zero]
        obtain ⟨hk1, k1, f1⟩ := K1.out
        go_wp2_with fail
        clear k1 f1
        have FF := (((K1.out.set 0 (.slice b3 (nd + 1) c3)).set 1 (.slice b4 (n - (nd + 1)) c4)).set 2 (.int .i64 F)).2.1
        have F0 := FF 0; have F1 := FF 1; have F2 := FF 2
        clear FF
        refine bodyPost_ret (v := .tuple #[.agg (hvV b3 (nd + 1) c3 b4 (n - (nd + 1)) c4 F), .int .i64 0]) ?_ rfl (HEND.out _ _ ⟨b3, c3, b4, c4, rfl, hc3, hc4, ?_, ?_, ?_, fun p hp => Nat.le_trans (by omega) (HP3.out p hp), fun p hp => Nat.le_trans (by omega) (HP4.out p hp)⟩)
        · simp [results, Try.results13, go_sem, F0, F1, F2]
        · have hne : ∀ b' off', b3 = some ⟨b', off', none⟩ → b' ≠ w.heap.size + 1 := fun b' off' e => by have h1 := HP3.out _ e; dsimp only at h1; omega
          exact ((HR3.out.other _ _ hne).other _ _ hne).other _ _ hne
        · have hne : ∀ b' off', b4 = some ⟨b', off', none⟩ → b' ≠ w.heap.size + 1 := fun b' off' e => by have h1 := HP4.out _ e; dsimp only at h1; omega
          exact ((HR4.out.other _ _ hne).other _ _ hne).other _ _ hne
        · exact ((HB.out.setCell (p := ⟨w.heap.size + 1, 0, none⟩) (by dsimp only; omega) _).setCell (p := ⟨w.heap.size + 1, 1, none⟩) (by dsimp only; omega) _).setCell (p := ⟨w.heap.size + 1, 2, none⟩) (by dsimp only; omega) _

end Go.Proofs.Ytmofgejoogikfaa

