/-
  Texts of this claim, in their build order: OM17 OR5.
-/
import Derived.Test.YtjfedpblkejmkaaGreatBot21
import Derived.Test.YtjfedpblkejmkaaGreatBot22
import Derived.Test.YtjfedpblkejmkaaGreatBot6
import Derived.Test.YtjfedpblkejmkaaGreatBot33
import Derived.Test.YtjfedpblkejmkaaGreatBot1
import Derived.Test.YtjfedpblkejmkaaGreatBot0

namespace Go.Proofs.YtjfedpblkejmkaaGreat
section
open Go.RowKit
attribute [local go_sem] Oper.semAt_some

theorem rtPt : RowTy Tryz.prog 42 188 2 16 (.agg #[.int .i64 0, .int .i64 0]) := by
  obtain ⟨i, h1, h2, h3, h4⟩ := info_parts (show (Tryz.prog.info? 188).map (fun i => (i.zero, i.size, i.bytes)) = some (some (.agg #[.int .i64 0, .int .i64 0]), 2, 16) by kernel_rfl)
  exact ⟨by kernel_rfl, ⟨i, h1, h2, h3, h4⟩, rfl, by omega, by omega⟩

theorem onesP (l : List (Int × Int)) : ∀ u ∈ fcells l, u.oneCell' = true := by
  intro u hu
  obtain ⟨p, _, hp⟩ := List.mem_flatMap.1 hu
  simp only [List.mem_cons, List.not_mem_nil, or_false] at hp
  rcases hp with rfl | rfl <;> rfl

set_option maxHeartbeats 400000 in
set_option maxRecDepth 100000 in
theorem CloneP_any (ms : List (Int × Int)) (ad : Addr) (cap : Nat) (w : World) (hfew : ms.length ≤ 100000) (hr : Reads w (some ad) (ms.length * 2) (fracs ms)) :
    Calls Tryz.prog 172 #[.slice (some ad) ms.length cap] w fun e w' => ∃ v, e = .returned v ∧ w'.ownsRow w.heap.size 188 2 v ms.length (fcells ms) ∧ Below w.heap.size w w' := by
  have HR := zH hr
  clear hr
  have HN := zH (Reads.newsF (HR.out.alloc (.cells #[] 188)))
  have hcl := zH (fcells_len ms)
  have hq : (binOp .eql 42 (.slice (some ad) ms.length cap) (.slice none 0 0)).run Tryz.prog w = .ok (.bool false) w := Lib.run_eql_slice_nil w _ _ (some ad) ms.length cap 0 0 Tryz.underlying42
  go_enter Tryz.func172, Tryz.ntmps172
  go_wp2_with (at_builtin; refine wpList_app w.heap.size rtPt rfl (.tmp 5) (.tmp 6) rfl (.slice (some ⟨w.heap.size, 0, none⟩) 0 0) 0 [] rfl (World.ownsRow_lit w #[] 0 (Nat.le_refl _) (by decide) rfl) ad ms.length cap (fcells ms) rfl hcl.out HN.out (onesP _) (by unfold maxLen; omega) (by omega) (by simp) ?_; intro v' w2 hown' hgrow _ hwhere; have HO := zH hown'; have HBB : Hid (Below w.heap.size w w2) := zH ((bAlloc (bSelf w) _).grown hgrow (by simp) (fun k e => by cases e; exact Nat.le_refl _)); clear hown' hgrow hwhere)
  go_ret
  have hrow := HO.out
  rw [Nat.zero_add, List.nil_append] at hrow
  exact ⟨v', rfl, hrow, HBB.out⟩
end
section
set_option maxRecDepth 100000
set_option maxHeartbeats 1600000
open Go.RowKit
attribute [local go_sem] Oper.semAt_some

theorem bWth_any (n lo hi : Int) (w : World) :
    Calls Tryz.prog 42 #[.int .i64 n, .int .i64 lo, .int .i64 hi] w fun e w' => e = .returned (.bool (wthn n lo hi)) ∧ w = w' := bWithin_any n lo hi w
theorem rFlowErr_any (x : Int) (w : World) :
    Calls Tryz.prog 33 #[.int .i64 x] w fun e w' => e = .returned (.int .i64 (unl (wthn x 0 50) 2)) ∧ w = w' := by
  have HW := zH (fun W => bWth_any x 0 50 W)
  obtain ⟨b, hb⟩ : ∃ b, wthn x 0 50 = b := ⟨_, rfl⟩
  rw [hb] at HW ⊢
  clear hb
  cases b
  all_goals
    go_enter Tryz.func33, Tryz.ntmps33
    go_wp2_with (go_at_call 42; refine (HW.out _).mono ?_; rintro e w' ⟨rfl, rfl⟩)
    go_ret
    exact ⟨rfl, rfl⟩
theorem rLimitErr_any (x : Int) (w : World) :
    Calls Tryz.prog 37 #[.int .i64 x] w fun e w' => e = .returned (.int .i64 (unl (wthn x 0 1000) 2)) ∧ w = w' := by
  have HW := zH (fun W => bWth_any x 0 1000 W)
  obtain ⟨b, hb⟩ : ∃ b, wthn x 0 1000 = b := ⟨_, rfl⟩
  rw [hb] at HW ⊢
  clear hb
  cases b
  all_goals
    go_enter Tryz.func37, Tryz.ntmps37
    go_wp2_with (go_at_call 42; refine (HW.out _).mono ?_; rintro e w' ⟨rfl, rfl⟩)
    go_ret
    exact ⟨rfl, rfl⟩

theorem rCapacity_any (p : Plt) (a : Option Addr) (cap : Nat) (w : World) (h0 : 0 < p.pts.length) (hlen : p.pts.length ≤ 100000) (hr : Reads w a (p.pts.length * 2) (fracs p.pts)) :
    Calls Tryz.prog 52 #[.agg (plC p a cap)] w fun e w' => e = .returned (.int .i64 (capV p.pts)) ∧ Below w.heap.size w w' := by
  unfold capV
  obtain ⟨j, hj⟩ : ∃ j, p.pts.length = j + 1 := ⟨p.pts.length - 1, by omega⟩
  unfold plC
  rw [hj, Nat.add_sub_cancel]
  obtain ⟨b, off, rfl, hb, hc⟩ := hr.at (k := j * 2) (by omega)
  obtain ⟨v, hv⟩ : ∃ v, (fg p.pts j).1 = v := ⟨_, rfl⟩
  have c0 : w.cell? ⟨b, off + j * 2, none⟩ = some (.int .i64 v) := by have := hc (j * 2) (by omega); rw [fracs0, hv] at this; exact this
  have c1 : ∀ o, (w.alloc o).cell? ⟨b, off + j * 2, none⟩ = some (.int .i64 v) := fun o => ((bAlloc (bSelf w) o).cell (p := ⟨b, off + j * 2, none⟩) hb).trans c0
  rw [hv]
  have hi : ((j + 1 : Nat) : Int) - 1 = (j : Int) := by omega
  have hjj : (j : Int) < ((j + 1 : Nat) : Int) := by omega
  obtain ⟨n, hn⟩ : ∃ n, j + 1 = n := ⟨_, rfl⟩
  rw [hn] at hi hjj ⊢
  have hn1 : n ≤ 100000 := by omega
  clear hr hc hj hv hn c0
  go_enter Tryz.func52, Tryz.ntmps52
  go_wp2_with fail
  go_ret
  exact ⟨rfl, bAlloc (bSelf w) _⟩

theorem Reads.st4 {W : World} {a : Option Addr} {n : Nat} {f : Nat → Value} {b : Nat} (h : Reads W a n f) (hb : ∀ q, a = some q → q.block ≠ b) (x0 x1 x2 x3 : Value) : Reads (Go.Proofs.YtjfedpblkejmkaaGreat.st4 W b x0 x1 x2 x3) a n f := by
  have hne : ∀ b' off, a = some ⟨b', off, none⟩ → b' ≠ b := fun b' off e => hb _ e
  exact (((h.other ⟨b, 0, none⟩ x0 hne).other ⟨b, 1, none⟩ x1 hne).other ⟨b, 2, none⟩ x2 hne).other ⟨b, 3, none⟩ x3 hne
def CpPost (p : Plt) (w : World) (e : Ending) (w' : World) : Prop :=
  ∃ a c, e = .returned (.agg (plC p a c)) ∧ p.pts.length ≤ c ∧ Reads w' a (p.pts.length * 2) (fracs p.pts) ∧ Below w.heap.size w w' ∧ ∀ q, a = some q → w.heap.size ≤ q.block

theorem rCopyPlant_any (p : Plt) (a : Option Addr) (cap : Nat) (w : World) (hlen : p.pts.length ≤ 100000) (hr : Reads w a (p.pts.length * 2) (fracs p.pts)) :
    Calls Tryz.prog 25 #[.agg (plC p a cap)] w (CpPost p w) := by
  have HR := zH hr
  obtain ⟨l, pump, on, off⟩ := p
  have HP : Hid (∀ e w', (∃ a c, e = .returned (.agg #[.slice a l.length c, .int .i64 pump, .int .i64 on, .int .i64 off]) ∧ l.length ≤ c ∧ Reads w' a (l.length * 2) (fracs l) ∧ Below w.heap.size w w' ∧ ∀ q, a = some q → w.heap.size ≤ q.block) → CpPost ⟨l, pump, on, off⟩ w e w') := zH (fun e w' h => h)
  unfold plC
  dsimp only at HR hlen ⊢
  obtain ⟨n, hn⟩ : ∃ n, l.length = n := ⟨_, rfl⟩
  have HN := zH hn
  rw [hn] at HR HP hlen ⊢
  clear hr hn
  go_enter Tryz.func25, Tryz.ntmps25
  go_upto_region 1 with (fail)
  obtain ⟨w3, hw3⟩ : ∃ w3, (w.alloc (.cells #[.slice a n cap, .int .i64 pump, .int .i64 on, .int .i64 off] 44)).alloc (.cells #[.slice none 0 0, .int .i64 0, .int .i64 0, .int .i64 0] 44) = w3 := ⟨_, rfl⟩
  rw [hw3]
  have K0 : Hid (Blk w3 w.heap.size #[.slice a n cap, .int .i64 pump, .int .i64 on, .int .i64 off]) := by subst hw3; exact zH ((Blk.new _ _ _).alloc _)
  have K1 : Hid (Blk w3 (w.heap.size + 1) #[.slice none 0 0, .int .i64 0, .int .i64 0, .int .i64 0]) := by subst hw3; exact zH (Blk.newAt _ _ _ (by simp))
  have HB : Hid (Below w.heap.size w w3) := by subst hw3; exact zH (bAlloc (bAlloc (bSelf w) _) _)
  clear hw3
  have hs3 : w.heap.size + 1 < w3.heap.size := K1.out.1
  refine wp_region_treeT 10 (by kernel_rfl) (by kernel_rfl) (fun wd hwd => ?_)
  have T := zH hwd
  clear hwd
  refine WE_yes 1 rfl (by kernel_rfl) (fun _ _ _ _ _ h => h) (by rfl) ?_; apply Exists.intro; refine ⟨fun w1 hb1 => ?_, ?_⟩; (focus ((have hb1 := zH hb1; go_simp); (try (go_bits; try go_simp)); (try (rw [if_pos (by omega)]; try go_simp)); (first | done | (with_reducible rfl) | exact rfl)))
  simp only [Act.put, zzT, zzO, zzS]
  refine WE_yes 2 rfl (by kernel_rfl) (fun _ _ _ _ _ h => h) (by rfl) ?_; apply Exists.intro; refine ⟨fun w1 hb1 => ?_, ?_⟩; (focus (((obtain ⟨-, k0, -⟩ := K0.out.to (T.out.trans hb1)); have hb1 := zH hb1; go_simp); (try (go_bits; try go_simp)); (try (rw [if_pos (by omega)]; try go_simp)); (first | done | (with_reducible rfl) | exact rfl)))
  simp only [Act.put, zzT, zzO, zzS]
  refine WE_yes 4 rfl (by kernel_rfl) (fun _ _ _ _ _ h => h) (by rfl) ?_; apply Exists.intro; refine ⟨fun w1 hb1 => ?_, ?_⟩; (focus ((have hb1 := zH hb1; go_simp); (try (go_bits; try go_simp)); (try (rw [if_pos (by omega)]; try go_simp)); (first | done | (with_reducible rfl) | exact rfl)))
  simp only [Act.put, zzT, zzO, zzS]
  refine WE_yes 5 rfl (by kernel_rfl) (fun _ _ _ _ _ h => h) (by rfl) ?_; apply Exists.intro; refine ⟨fun w1 hb1 => ?_, ?_⟩; (focus (((obtain ⟨-, k0, -⟩ := K0.out.to (T.out.trans hb1)); have hb1 := zH hb1; go_simp); (try (go_bits; try go_simp)); (try (rw [if_pos (by omega)]; try go_simp)); (first | done | (with_reducible rfl) | exact rfl)))
  simp only [Act.put, zzT, zzO, zzS]
  refine WE_yes 6 rfl (by kernel_rfl) (fun _ _ _ _ _ h => h) (by rfl) ?_; apply Exists.intro; refine ⟨fun w1 hb1 => ?_, ?_⟩; (focus ((have hb1 := zH hb1; go_simp); (try (go_bits; try go_simp)); (try (rw [if_pos (by omega)]; try go_simp)); (first | done | (with_reducible rfl) | exact rfl)))
  simp only [Act.put, zzT, zzO, zzS]
  refine WE_yes 7 rfl (by kernel_rfl) (fun _ _ _ _ _ h => h) (by rfl) ?_; apply Exists.intro; refine ⟨fun w1 hb1 => ?_, ?_⟩; (focus (((obtain ⟨-, k0, -⟩ := K0.out.to (T.out.trans hb1)); have hb1 := zH hb1; go_simp); (try (go_bits; try go_simp)); (try (rw [if_pos (by omega)]; try go_simp)); (first | done | (with_reducible rfl) | exact rfl)))
  simp only [Act.put, zzT, zzO, zzS]
  refine WE_yes 8 rfl (by kernel_rfl) (fun _ _ _ _ _ h => h) (by rfl) ?_; apply Exists.intro; refine ⟨fun w1 hb1 => ?_, ?_⟩; (focus ((have hb1 := zH hb1; go_simp); (try (go_bits; try go_simp)); (try (rw [if_pos (by omega)]; try go_simp)); (first | done | (with_reducible rfl) | exact rfl)))
  simp only [Act.put, zzT, zzO, zzS]
  refine WE_yes 9 rfl (by kernel_rfl) (fun _ _ _ _ _ h => h) (by rfl) ?_; apply Exists.intro; refine ⟨fun w1 hb1 => ?_, ?_⟩; (focus (((obtain ⟨-, k0, -⟩ := K0.out.to (T.out.trans hb1)); have hb1 := zH hb1; go_simp); (try (go_bits; try go_simp)); (try (rw [if_pos (by omega)]; try go_simp)); (first | done | (with_reducible rfl) | exact rfl)))
  simp only [Act.put, zzT, zzO, zzS]
  refine WE_one 0 rfl (by decide) (by kernel_rfl) ?_
  unfold stepE
  go_wp2_with fail
  obtain ⟨u1, hu1⟩ : ∃ u1, wd.alloc (.cells #[] 188) = u1 := ⟨_, rfl⟩
  rw [hu1]
  have hb : Below wd.heap.size wd u1 := by subst hu1; exact bAlloc (bSelf _) _
  have hlit : u1.ownsRow wd.heap.size 188 2 (.slice (some ⟨wd.heap.size, 0, none⟩) 0 0) 0 [] := by subst hu1; exact World.ownsRow_lit wd #[] 0 (Nat.le_refl _) (by decide) rfl
  have HLIT := zH hlit
  have hbd := zH (hb.mono T.out.size)
  have HSX : Hid (w3.heap.size ≤ wd.heap.size) := zH T.out.size
  have HSD : Hid (w.heap.size + 1 < wd.heap.size) := zH (by have := T.out.size; omega)
  have HSU : Hid (wd.heap.size ≤ u1.heap.size) := zH hb.size
  replace T := zH (bThen T.out hb)
  refine ⟨hbd.out, ?_⟩
  clear hbd hb hu1 hlit
  obtain ⟨D, hD⟩ : ∃ D, wd.heap.size = D := ⟨_, rfl⟩
  have HSW : Hid (w3.heap.size ≤ D) := zH (by rw [← hD]; exact HSX.out)
  rw [hD] at HLIT HSD HSU ⊢
  clear hD
  replace HR := zH ((HR.out.to HB.out).to T.out)
  have HPO : Hid (∀ (u2 : World) (v : Value), u2.ownsRow D 188 2 v n (fcells l) → ∃ a' c', v = .slice a' n c' ∧ n ≤ c' ∧ Reads u2 a' (n * 2) (fracs l) ∧ ∀ q, a' = some q → D ≤ q.block) := zH (fun u2 v h => Reads.of_row (f := fracs l) h (fun i hi => fcells_get l i (by rw [HN.out]; exact hi)))
  refine WE_one 3 rfl (by decide) (by kernel_rfl) ?_
  unfold stepE
  cases a with
  | none =>
    have h0 : n = 0 := by
      rcases HR.out with h | ⟨b, off, e, -⟩
      · omega
      · cases e
    subst h0
    have hl : l = [] := List.length_eq_zero_iff.1 HN.out
    subst hl
    go_wp2_with fail
    obtain ⟨a', ha'⟩ : ∃ a' : Option Addr, a' = some ⟨D, 0, none⟩ := ⟨_, rfl⟩
    have HCP : Hid (0 ≤ 0) := zH (Nat.zero_le _)
    have HRD : Hid (Reads u1 a' (0 * 2) (fracs [])) := zH (.inl (Nat.zero_mul _))
    have HFR : Hid (∀ q, a' = some q → D ≤ q.block) := zH (fun q hq => by rw [ha'] at hq; cases hq; exact Nat.le_refl _)
    have hbd : Hid (Below w3.heap.size u1 u1) := zH (Below.refl _ _)
    rw [← ha']
    clear ha'
    refine ⟨hbd.out, ?_⟩
    clear hbd
    replace K1 := zH (K1.out.to T.out)
    replace HB := zH (bThen HB.out T.out)
    refine WE_tail rfl (by kernel_rfl) ?_
    simp only [List.drop_succ_cons, List.drop_zero]
    obtain ⟨hk1, k1, f1⟩ := K1.out
    go_wp2_with fail
    clear k1 f1
    have F := (K1.out.st4 (.slice a' 0 0) (.int .i64 pump) (.int .i64 on) (.int .i64 off)).2.1
    have F0 := F 0; have F1 := F 1; have F2 := F 2; have F3 := F 3
    unfold st4 at F0 F1 F2 F3
    clear F
    have hfin := HP.out (.returned (.agg #[.slice a' 0 0, .int .i64 pump, .int .i64 on, .int .i64 off])) (st4 u1 (w.heap.size + 1) (.slice a' 0 0) (.int .i64 pump) (.int .i64 on) (.int .i64 off)) ⟨a', 0, rfl, HCP.out, HRD.out.st4 (fun q hq => by have := HFR.out q hq; have := HSD.out; omega) _ _ _ _, HB.out.trans (below_st4 u1 (Nat.le_succ _) _ _ _ _), fun q hq => by have := HFR.out q hq; have := HSD.out; omega⟩
    refine bodyPost_ret (v := .agg #[.slice a' 0 0, .int .i64 pump, .int .i64 on, .int .i64 off]) ?_ rfl hfin
    simp [results, Tryz.results25, go_sem, F0, F1, F2, F3]
  | some ad =>
    have HNW := zH (Reads.newsF (ms := l) (by rw [HN.out]; exact HR.out))
    have hcl : Hid ((fcells l).length = n * 2) := zH (by rw [fcells_len, HN.out])
    have hsu := HSU.out
    go_wp2_with (at_builtin; refine wpList_app D rtPt rfl (.tmp 3) (.tmp 5) rfl (.slice (some ⟨D, 0, none⟩) 0 0) 0 [] rfl HLIT.out ad n cap (fcells l) rfl hcl.out HNW.out (onesP _) (by unfold maxLen; omega) (by omega) hsu ?_; intro v' u2 hown' hgrow _ hwhere; have HO := zH hown'; have HG := zH hgrow; clear hown' hgrow hwhere)
    have hown : u2.ownsRow D 188 2 v' n (fcells l) := by have := HO.out; rwa [Nat.zero_add, List.nil_append] at this
    obtain ⟨a', c', rfl, hcp, hrd, hfr⟩ := HPO.out u2 v' hown
    have HCP := zH hcp
    have HRD := zH hrd
    have HFR := zH hfr
    have hbd : Hid (Below w3.heap.size u1 u2) := zH ((Below.refl _ _).grown HG.out T.out.size (fun k e => by cases e; exact HSW.out))
    replace T := zH (T.out.trans hbd.out)
    clear hown hcp hrd hfr HO HG
    refine ⟨hbd.out, ?_⟩
    clear hbd
    replace K1 := zH (K1.out.to T.out)
    replace HB := zH (bThen HB.out T.out)
    refine WE_tail rfl (by kernel_rfl) ?_
    simp only [List.drop_succ_cons, List.drop_zero]
    obtain ⟨hk1, k1, f1⟩ := K1.out
    go_wp2_with fail
    clear k1 f1
    have F := (K1.out.st4 (.slice a' n c') (.int .i64 pump) (.int .i64 on) (.int .i64 off)).2.1
    have F0 := F 0; have F1 := F 1; have F2 := F 2; have F3 := F 3
    unfold st4 at F0 F1 F2 F3
    clear F
    have hfin := HP.out (.returned (.agg #[.slice a' n c', .int .i64 pump, .int .i64 on, .int .i64 off])) (st4 u2 (w.heap.size + 1) (.slice a' n c') (.int .i64 pump) (.int .i64 on) (.int .i64 off)) ⟨a', c', rfl, HCP.out, HRD.out.st4 (fun q hq => by have := HFR.out q hq; have := HSD.out; omega) _ _ _ _, HB.out.trans (below_st4 u2 (Nat.le_succ _) _ _ _ _), fun q hq => by have := HFR.out q hq; have := HSD.out; omega⟩
    refine bodyPost_ret (v := .agg #[.slice a' n c', .int .i64 pump, .int .i64 on, .int .i64 off]) ?_ rfl hfin
    simp [results, Tryz.results25, go_sem, F0, F1, F2, F3]
end
end Go.Proofs.YtjfedpblkejmkaaGreat
