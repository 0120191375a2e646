/-
  Texts of this claim, in their build order: OR5.
-/
import Derived.Test.YtbpcapcgbnbknaaGreatOne24
import Derived.Test.YtbpcapcgbnbknaaGreatOne41
import Derived.Test.YtbpcapcgbnbknaaGreatOne7
import Derived.Test.YtbpcapcgbnbknaaGreatOne1
import Derived.Test.YtbpcapcgbnbknaaGreatOne0

namespace Go.Proofs.YtbpcapcgbnbknaaGreat
section
set_option maxRecDepth 100000
set_option maxHeartbeats 1600000
open Go.RowKit
attribute [local go_sem] Oper.semAt_some

theorem bWth_any (n lo hi : Int) (w : World) :
    Calls Tryz.prog 60 #[.int .i64 n, .int .i64 lo, .int .i64 hi] w fun e w' => e = .returned (.bool (wthn n lo hi)) ∧ w = w' := bWithin_any n lo hi w
theorem rFlowErr_any (x : Int) (w : World) :
    Calls Tryz.prog 118 #[.int .i64 x] w fun e w' => e = .returned (.int .i64 (unl (wthn x 0 50) 2)) ∧ w = w' := by
  have HW := zH (fun W => bWth_any x 0 50 W)
  obtain ⟨b, hb⟩ : ∃ b, wthn x 0 50 = b := ⟨_, rfl⟩
  rw [hb] at HW ⊢
  clear hb
  cases b
  all_goals
    go_enter Tryz.func118, Tryz.ntmps118
    go_wp2_with (go_at_call 60; refine (HW.out _).mono ?_; rintro e w' ⟨rfl, rfl⟩)
    go_ret
    exact ⟨rfl, rfl⟩
theorem rLimitErr_any (x : Int) (w : World) :
    Calls Tryz.prog 23 #[.int .i64 x] w fun e w' => e = .returned (.int .i64 (unl (wthn x 0 1000) 2)) ∧ w = w' := by
  have HW := zH (fun W => bWth_any x 0 1000 W)
  obtain ⟨b, hb⟩ : ∃ b, wthn x 0 1000 = b := ⟨_, rfl⟩
  rw [hb] at HW ⊢
  clear hb
  cases b
  all_goals
    go_enter Tryz.func23, Tryz.ntmps23
    go_wp2_with (go_at_call 60; refine (HW.out _).mono ?_; rintro e w' ⟨rfl, rfl⟩)
    go_ret
    exact ⟨rfl, rfl⟩

theorem rCapacity_any (p : Plt) (a : Option Addr) (cap : Nat) (w : World) (h0 : 0 < p.pts.length) (hlen : p.pts.length ≤ 100000) (hr : Reads w a (p.pts.length * 2) (fracs p.pts)) :
    Calls Tryz.prog 74 #[.agg (plC p a cap)] w fun e w' => e = .returned (.int .i64 (capV p.pts)) ∧ Below w.heap.size w w' := by
  unfold capV
  obtain ⟨j, hj⟩ : ∃ j, p.pts.length = j + 1 := ⟨p.pts.length - 1, by omega⟩
  unfold plC
  rw [hj, Nat.add_sub_cancel]
  obtain ⟨b, off, rfl, hb, hc⟩ := hr.at (k := j * 2) (by omega)
  obtain ⟨v, hv⟩ : ∃ v, (fg p.pts j).1 = v := ⟨_, rfl⟩
  have c0 : w.cell? ⟨b, off + j * 2, none⟩ = some (.int .i64 v) := by have := hc (j * 2) (by omega); rw [fracs0, hv] at this; exact this
  have c1 : ∀ o, (w.alloc o).cell? ⟨b, off + j * 2, none⟩ = some (.int .i64 v) := fun o => ((bAlloc (bSelf w) o).cell (p := ⟨b, off + j * 2, none⟩) hb).trans c0
  rw [hv]
  have hi : ((j + 1 : Nat) : Int) - 1 = (j : Int) := by omega
  have hjj : (j : Int) < ((j + 1 : Nat) : Int) := by omega
  obtain ⟨n, hn⟩ : ∃ n, j + 1 = n := ⟨_, rfl⟩
  rw [hn] at hi hjj ⊢
  have hn1 : n ≤ 100000 := by omega
  clear hr hc hj hv hn c0
  go_enter Tryz.func74, Tryz.ntmps74
  go_wp2_with fail
  go_ret
  exact ⟨rfl, bAlloc (bSelf w) _⟩

/-- The error of a state of a valid plant. -/
def stE (p : Plt) (v : Int) : Int := unl (wthn v 0 (capV p.pts)) 2
theorem rStateErr_any (p : Plt) (s : OSt) (a : Option Addr) (cap : Nat) (w : World) (h0 : 0 < p.pts.length) (hlen : p.pts.length ≤ 100000) (hr : Reads w a (p.pts.length * 2) (fracs p.pts)) :
    Calls Tryz.prog 21 #[.agg (plC p a cap), .agg #[.int .i64 s.1, .bool s.2]] w fun e w' => e = .returned (.int .i64 (stE p s.1)) ∧ Below w.heap.size w w' := by
  have HC := zH (fun W (hb : Below w.heap.size w W) => rCapacity_any p a cap W h0 hlen (hr.to hb))
  have HW := zH (fun W => bWth_any s.1 0 (capV p.pts) W)
  have HE : Hid (stE p s.1 = unl (wthn s.1 0 (capV p.pts)) 2) := zH rfl
  obtain ⟨b, hb⟩ : ∃ b, wthn s.1 0 (capV p.pts) = b := ⟨_, rfl⟩
  obtain ⟨C, hC⟩ : ∃ b, capV p.pts = b := ⟨_, rfl⟩
  rw [hb] at HW HE
  rw [hC] at HC HW
  obtain ⟨s1, s2⟩ := s
  dsimp only at HW ⊢ HE
  rw [HE.out]
  clear hb hC hr h0 hlen HE
  cases b
  all_goals
    go_enter Tryz.func21, Tryz.ntmps21
    go_wp2_with fail
    obtain ⟨W, hW⟩ : ∃ W, (w.alloc (.cells (plC p a cap) 51)).alloc (.cells #[.int .i64 s1, .bool s2] 53) = W := ⟨_, rfl⟩
    rw [hW]
    have K2 : Hid (Blk W w.heap.size (plC p a cap)) := by subst hW; exact zH ((Blk.new _ _ _).alloc _)
    have K3 : Hid (Blk W (w.heap.size + 1) #[.int .i64 s1, .bool s2]) := by subst hW; exact zH (Blk.newAt _ _ _ (by simp))
    have HB : Hid (Below w.heap.size w W) := by subst hW; exact zH (bAlloc (bAlloc (bSelf w) _) _)
    clear hW
    refine wp_region_quiet_all (fun w' => Below (World.heap W).size (W) w') (by kernel_rfl) (by kernel_rfl) (Below.refl _ _).drew ?_
    refine WQ.out ?_
    repeat (first | (refine WQ_no (by rfl) ?_; (simp only [Act.put, zzT, zzO, zzS])) | (refine WQ_yes (by rfl) ?_; apply Exists.intro; refine ⟨fun w1 hb1 => ?_, ?_⟩; (focus (((obtain ⟨-, k2, -⟩ := K2.out.to hb1; obtain ⟨-, k3, -⟩ := K3.out.to hb1); have hb1 := zH hb1; go_simp); (try (go_bits; try go_simp)); (try (rw [if_pos (by omega)]; try go_simp)); (first | done | ((first | (go_at_call 74; refine (HC.out _ (bThen HB.out hb1.out)).mono ?_; rintro e w' ⟨rfl, hb⟩; exact ⟨rfl, bThen hb1.out hb⟩) | (go_at_call 60; refine (HW.out _).mono ?_; rintro e w' ⟨rfl, rfl⟩; exact ⟨rfl, hb1.out⟩))) | (with_reducible rfl) | exact rfl))); (simp only [Act.put, zzT, zzO, zzS])))
    refine WQ_nil ?_
    intro w1 hb1
    go_wp2_with fail
    go_ret
    exact ⟨rfl, bThen HB.out hb1⟩

theorem Reads.st4 {W : World} {a : Option Addr} {n : Nat} {f : Nat → Value} {b : Nat} (h : Reads W a n f) (hb : ∀ q, a = some q → q.block ≠ b) (x0 x1 x2 x3 : Value) : Reads (Go.Proofs.YtbpcapcgbnbknaaGreat.st4 W b x0 x1 x2 x3) a n f := by
  have hne : ∀ b' off, a = some ⟨b', off, none⟩ → b' ≠ b := fun b' off e => hb _ e
  exact (((h.other ⟨b, 0, none⟩ x0 hne).other ⟨b, 1, none⟩ x1 hne).other ⟨b, 2, none⟩ x2 hne).other ⟨b, 3, none⟩ x3 hne
def CpPost (p : Plt) (w : World) (e : Ending) (w' : World) : Prop :=
  ∃ a c, e = .returned (.agg (plC p a c)) ∧ p.pts.length ≤ c ∧ Reads w' a (p.pts.length * 2) (fracs p.pts) ∧ Below w.heap.size w w' ∧ ∀ q, a = some q → w.heap.size ≤ q.block

theorem rCopyPlant_any (p : Plt) (a : Option Addr) (cap : Nat) (w : World) (hlen : p.pts.length ≤ 100000) (hr : Reads w a (p.pts.length * 2) (fracs p.pts)) :
    Calls Tryz.prog 27 #[.agg (plC p a cap)] w (CpPost p w) := by
  have HR := zH hr
  obtain ⟨l, pump, on, off⟩ := p
  have HP : Hid (∀ e w', (∃ a c, e = .returned (.agg #[.slice a l.length c, .int .i64 pump, .int .i64 on, .int .i64 off]) ∧ l.length ≤ c ∧ Reads w' a (l.length * 2) (fracs l) ∧ Below w.heap.size w w' ∧ ∀ q, a = some q → w.heap.size ≤ q.block) → CpPost ⟨l, pump, on, off⟩ w e w') := zH (fun e w' h => h)
  unfold plC
  dsimp only at HR hlen ⊢
  obtain ⟨n, hn⟩ : ∃ n, l.length = n := ⟨_, rfl⟩
  have HN := zH hn
  rw [hn] at HR HP hlen ⊢
  clear hr hn
  go_enter Tryz.func27, Tryz.ntmps27
  go_upto_region 1 with (fail)
  obtain ⟨w3, hw3⟩ : ∃ w3, (w.alloc (.cells #[.slice a n cap, .int .i64 pump, .int .i64 on, .int .i64 off] 51)).alloc (.cells #[.slice none 0 0, .int .i64 0, .int .i64 0, .int .i64 0] 51) = w3 := ⟨_, rfl⟩
  rw [hw3]
  have K0 : Hid (Blk w3 w.heap.size #[.slice a n cap, .int .i64 pump, .int .i64 on, .int .i64 off]) := by subst hw3; exact zH ((Blk.new _ _ _).alloc _)
  have K1 : Hid (Blk w3 (w.heap.size + 1) #[.slice none 0 0, .int .i64 0, .int .i64 0, .int .i64 0]) := by subst hw3; exact zH (Blk.newAt _ _ _ (by simp))
  have HB : Hid (Below w.heap.size w w3) := by subst hw3; exact zH (bAlloc (bAlloc (bSelf w) _) _)
  clear hw3
  have hs3 : w.heap.size + 1 < w3.heap.size := K1.out.1
  refine wp_region_treeT 10 (by kernel_rfl) (by kernel_rfl) (fun wd hwd => ?_)
  have T := zH hwd
  clear hwd
  refine WE_yes 1 rfl (by kernel_rfl) (fun _ _ _ _ _ h => h) (by rfl) ?_; apply Exists.intro; refine ⟨fun w1 hb1 => ?_, ?_⟩; (focus ((have hb1 := zH hb1; go_simp); (try (go_bits; try go_simp)); (try (rw [if_pos (by omega)]; try go_simp)); (first | done | (with_reducible rfl) | exact rfl)))
  simp only [Act.put, zzT, zzO, zzS]
  refine WE_yes 2 rfl (by kernel_rfl) (fun _ _ _ _ _ h => h) (by rfl) ?_; apply Exists.intro; refine ⟨fun w1 hb1 => ?_, ?_⟩; (focus (((obtain ⟨-, k0, -⟩ := K0.out.to (T.out.trans hb1)); have hb1 := zH hb1; go_simp); (try (go_bits; try go_simp)); (try (rw [if_pos (by omega)]; try go_simp)); (first | done | (with_reducible rfl) | exact rfl)))
  simp only [Act.put, zzT, zzO, zzS]
  refine WE_yes 4 rfl (by kernel_rfl) (fun _ _ _ _ _ h => h) (by rfl) ?_; apply Exists.intro; refine ⟨fun w1 hb1 => ?_, ?_⟩; (focus ((have hb1 := zH hb1; go_simp); (try (go_bits; try go_simp)); (try (rw [if_pos (by omega)]; try go_simp)); (first | done | (with_reducible rfl) | exact rfl)))
  simp only [Act.put, zzT, zzO, zzS]
  refine WE_yes 5 rfl (by kernel_rfl) (fun _ _ _ _ _ h => h) (by rfl) ?_; apply Exists.intro; refine ⟨fun w1 hb1 => ?_, ?_⟩; (focus (((obtain ⟨-, k0, -⟩ := K0.out.to (T.out.trans hb1)); have hb1 := zH hb1; go_simp); (try (go_bits; try go_simp)); (try (rw [if_pos (by omega)]; try go_simp)); (first | done | (with_reducible rfl) | exact rfl)))
  simp only [Act.put, zzT, zzO, zzS]
  refine WE_yes 6 rfl (by kernel_rfl) (fun _ _ _ _ _ h => h) (by rfl) ?_; apply Exists.intro; refine ⟨fun w1 hb1 => ?_, ?_⟩; (focus ((have hb1 := zH hb1; go_simp); (try (go_bits; try go_simp)); (try (rw [if_pos (by omega)]; try go_simp)); (first | done | (with_reducible rfl) | exact rfl)))
  simp only [Act.put, zzT, zzO, zzS]
  refine WE_yes 7 rfl (by kernel_rfl) (fun _ _ _ _ _ h => h) (by rfl) ?_; apply Exists.intro; refine ⟨fun w1 hb1 => ?_, ?_⟩; (focus (((obtain ⟨-, k0, -⟩ := K0.out.to (T.out.trans hb1)); have hb1 := zH hb1; go_simp); (try (go_bits; try go_simp)); (try (rw [if_pos (by omega)]; try go_simp)); (first | done | (with_reducible rfl) | exact rfl)))
  simp only [Act.put, zzT, zzO, zzS]
  refine WE_yes 8 rfl (by kernel_rfl) (fun _ _ _ _ _ h => h) (by rfl) ?_; apply Exists.intro; refine ⟨fun w1 hb1 => ?_, ?_⟩; (focus ((have hb1 := zH hb1; go_simp); (try (go_bits; try go_simp)); (try (rw [if_pos (by omega)]; try go_simp)); (first | done | (with_reducible rfl) | exact rfl)))
  simp only [Act.put, zzT, zzO, zzS]
  refine WE_yes 9 rfl (by kernel_rfl) (fun _ _ _ _ _ h => h) (by rfl) ?_; apply Exists.intro; refine ⟨fun w1 hb1 => ?_, ?_⟩; (focus (((obtain ⟨-, k0, -⟩ := K0.out.to (T.out.trans hb1)); have hb1 := zH hb1; go_simp); (try (go_bits; try go_simp)); (try (rw [if_pos (by omega)]; try go_simp)); (first | done | (with_reducible rfl) | exact rfl)))
  simp only [Act.put, zzT, zzO, zzS]
  refine WE_one 0 rfl (by decide) (by kernel_rfl) ?_
  unfold stepE
  go_wp2_with fail
  obtain ⟨u1, hu1⟩ : ∃ u1, wd.alloc (.cells #[] 140) = u1 := ⟨_, rfl⟩
  rw [hu1]
  have hb : Below wd.heap.size wd u1 := by subst hu1; exact bAlloc (bSelf _) _
  have hlit : u1.ownsRow wd.heap.size 140 2 (.slice (some ⟨wd.heap.size, 0, none⟩) 0 0) 0 [] := by subst hu1; exact World.ownsRow_lit wd #[] 0 (Nat.le_refl _) (by decide) rfl
  have HLIT := zH hlit
  have hbd := zH (hb.mono T.out.size)
  have HSX : Hid (w3.heap.size ≤ wd.heap.size) := zH T.out.size
  have HSD : Hid (w.heap.size + 1 < wd.heap.size) := zH (by have := T.out.size; omega)
  have HSU : Hid (wd.heap.size ≤ u1.heap.size) := zH hb.size
  replace T := zH (bThen T.out hb)
  refine ⟨hbd.out, ?_⟩
  clear hbd hb hu1 hlit
  obtain ⟨D, hD⟩ : ∃ D, wd.heap.size = D := ⟨_, rfl⟩
  have HSW : Hid (w3.heap.size ≤ D) := zH (by rw [← hD]; exact HSX.out)
  rw [hD] at HLIT HSD HSU ⊢
  clear hD
  replace HR := zH ((HR.out.to HB.out).to T.out)
  have HPO : Hid (∀ (u2 : World) (v : Value), u2.ownsRow D 140 2 v n (fcells l) → ∃ a' c', v = .slice a' n c' ∧ n ≤ c' ∧ Reads u2 a' (n * 2) (fracs l) ∧ ∀ q, a' = some q → D ≤ q.block) := zH (fun u2 v h => Reads.of_row (f := fracs l) h (fun i hi => fcells_get l i (by rw [HN.out]; exact hi)))
  refine WE_one 3 rfl (by decide) (by kernel_rfl) ?_
  unfold stepE
  cases a with
  | none =>
    have h0 : n = 0 := by
      rcases HR.out with h | ⟨b, off, e, -⟩
      · omega
      · cases e
    subst h0
    have hl : l = [] := List.length_eq_zero_iff.1 HN.out
    subst hl
    go_wp2_with fail
    obtain ⟨a', ha'⟩ : ∃ a' : Option Addr, a' = some ⟨D, 0, none⟩ := ⟨_, rfl⟩
    have HCP : Hid (0 ≤ 0) := zH (Nat.zero_le _)
    have HRD : Hid (Reads u1 a' (0 * 2) (fracs [])) := zH (.inl (Nat.zero_mul _))
    have HFR : Hid (∀ q, a' = some q → D ≤ q.block) := zH (fun q hq => by rw [ha'] at hq; cases hq; exact Nat.le_refl _)
    have hbd : Hid (Below w3.heap.size u1 u1) := zH (Below.refl _ _)
    rw [← ha']
    clear ha'
    refine ⟨hbd.out, ?_⟩
    clear hbd
    replace K1 := zH (K1.out.to T.out)
    replace HB := zH (bThen HB.out T.out)
    refine WE_tail rfl (by kernel_rfl) ?_
    simp only [List.drop_succ_cons, List.drop_zero]
    obtain ⟨hk1, k1, f1⟩ := K1.out
    go_wp2_with fail
    clear k1 f1
    have F := (K1.out.st4 (.slice a' 0 0) (.int .i64 pump) (.int .i64 on) (.int .i64 off)).2.1
    have F0 := F 0; have F1 := F 1; have F2 := F 2; have F3 := F 3
    unfold st4 at F0 F1 F2 F3
    clear F
    have hfin := HP.out (.returned (.agg #[.slice a' 0 0, .int .i64 pump, .int .i64 on, .int .i64 off])) (st4 u1 (w.heap.size + 1) (.slice a' 0 0) (.int .i64 pump) (.int .i64 on) (.int .i64 off)) ⟨a', 0, rfl, HCP.out, HRD.out.st4 (fun q hq => by have := HFR.out q hq; have := HSD.out; omega) _ _ _ _, HB.out.trans (below_st4 u1 (Nat.le_succ _) _ _ _ _), fun q hq => by have := HFR.out q hq; have := HSD.out; omega⟩
    refine bodyPost_ret (v := .agg #[.slice a' 0 0, .int .i64 pump, .int .i64 on, .int .i64 off]) ?_ rfl hfin
    simp [results, Tryz.results27, go_sem, F0, F1, F2, F3]
  | some ad =>
    have HNW := zH (Reads.newsF (ms := l) (by rw [HN.out]; exact HR.out))
    have hcl : Hid ((fcells l).length = n * 2) := zH (by rw [fcells_len, HN.out])
    have hsu := HSU.out
    go_wp2_with (at_builtin; refine wpList_app D rtPt rfl (.tmp 3) (.tmp 5) rfl (.slice (some ⟨D, 0, none⟩) 0 0) 0 [] rfl HLIT.out ad n cap (fcells l) rfl hcl.out HNW.out (onesP _) (by unfold maxLen; omega) (by omega) hsu ?_; intro v' u2 hown' hgrow _ hwhere; have HO := zH hown'; have HG := zH hgrow; clear hown' hgrow hwhere)
    have hown : u2.ownsRow D 140 2 v' n (fcells l) := by have := HO.out; rwa [Nat.zero_add, List.nil_append] at this
    obtain ⟨a', c', rfl, hcp, hrd, hfr⟩ := HPO.out u2 v' hown
    have HCP := zH hcp
    have HRD := zH hrd
    have HFR := zH hfr
    have hbd : Hid (Below w3.heap.size u1 u2) := zH ((Below.refl _ _).grown HG.out T.out.size (fun k e => by cases e; exact HSW.out))
    replace T := zH (T.out.trans hbd.out)
    clear hown hcp hrd hfr HO HG
    refine ⟨hbd.out, ?_⟩
    clear hbd
    replace K1 := zH (K1.out.to T.out)
    replace HB := zH (bThen HB.out T.out)
    refine WE_tail rfl (by kernel_rfl) ?_
    simp only [List.drop_succ_cons, List.drop_zero]
    obtain ⟨hk1, k1, f1⟩ := K1.out
    go_wp2_with fail
    clear k1 f1
    have F := (K1.out.st4 (.slice a' n c') (.int .i64 pump) (.int .i64 on) (.int .i64 off)).2.1
    have F0 := F 0; have F1 := F 1; have F2 := F 2; have F3 := F 3
    unfold st4 at F0 F1 F2 F3
    clear F
    have hfin := HP.out (.returned (.agg #[.slice a' n c', .int .i64 pump, .int .i64 on, .int .i64 off])) (st4 u2 (w.heap.size + 1) (.slice a' n c') (.int .i64 pump) (.int .i64 on) (.int .i64 off)) ⟨a', c', rfl, HCP.out, HRD.out.st4 (fun q hq => by have := HFR.out q hq; have := HSD.out; omega) _ _ _ _, HB.out.trans (below_st4 u2 (Nat.le_succ _) _ _ _ _), fun q hq => by have := HFR.out q hq; have := HSD.out; omega⟩
    refine bodyPost_ret (v := .agg #[.slice a' n c', .int .i64 pump, .int .i64 on, .int .i64 off]) ?_ rfl hfin
    simp [results, Tryz.results27, go_sem, F0, F1, F2, F3]
end
end Go.Proofs.YtbpcapcgbnbknaaGreat
