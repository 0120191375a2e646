/-
  Texts of this claim, in their build order: A8.
-/
import Derived.Test.YtfdlhhinomjakaaHel6
import Derived.Test.YtfdlhhinomjakaaHel7
import Derived.Test.YtfdlhhinomjakaaHel0

namespace Go.Proofs.Ytfdlhhinomjakaa
section
open Go.RowKit
attribute [local go_sem] Oper.semAt_some

def runE (x : HT) (zs : List Int) : Int := firstE [testE x, forcesE x zs]
def runL (x : HT) (zs : List Int) : List Int := 0 :: (stepsL x [0, 0, 0, 0] zs).map fun s => gi s.2 0

theorem eachR_zero {err : Nat → Int} : ∀ (n k : Nat), (eachR err k n).2 = 0 → ∀ j, k ≤ j → j < k + n → err j = 0
  | 0, _, _, _, _, _ => by omega
  | n + 1, k, h, j, h1, h2 => by
    unfold eachR at h
    by_cases h0 : err k = 0
    · rw [if_pos h0] at h
      by_cases hj : j = k
      · rw [hj]; exact h0
      · exact eachR_zero n (k + 1) h j (by omega) (by omega)
    · rw [if_neg h0] at h; exact absurd h h0
theorem firstE_zero : ∀ {l : List Int}, firstE l = 0 → ∀ e ∈ l, e = 0
  | e :: l, h, x, hx => by
    unfold firstE at h
    by_cases h0 : e = 0
    · rw [if_pos h0] at h
      cases hx with
      | head => exact h0
      | tail _ h' => exact firstE_zero h x h'
    · rw [if_neg h0] at h; exact absurd h h0
theorem forceE_zero {x : HT} {zs : List Int} {k : Nat} (h : forceE x zs k = 0) : x.lo ≤ gi zs k ∧ gi zs k ≤ x.hi := by
  unfold forceE unl at h
  cases hb : (decide (x.lo ≤ gi zs k) && decide (gi zs k ≤ x.hi)) with
  | true => simpa using hb
  | false => rw [hb] at h; simp at h
theorem forcesE_zero {x : HT} {zs : List Int} (h : forcesE x zs = 0) : zs.length ≤ 60 ∧ ∀ k, k < zs.length → x.lo ≤ gi zs k ∧ gi zs k ≤ x.hi := by
  have h1 := firstE_zero (show firstE [_, _] = 0 from h)
  have h2 := h1 _ (List.mem_cons_self ..)
  have h3 := h1 _ (List.mem_cons_of_mem _ (List.mem_cons_self ..))
  refine ⟨?_, fun k hk => forceE_zero (eachR_zero zs.length 0 h3 k (by omega) (by omega))⟩
  unfold unl at h2
  split at h2
  · rename_i h4; simp at h4; omega
  · omega
theorem runE_zero {x : HT} {zs : List Int} (h : runE x zs = 0) : x.ok ∧ zs.length ≤ 60 ∧ ∀ k, k < zs.length → -1000 ≤ gi zs k ∧ gi zs k ≤ 1000 := by
  have h1 := firstE_zero (show firstE [_, _] = 0 from h)
  have h2 := testE_zero (h1 _ (List.mem_cons_self ..))
  have h3 := forcesE_zero (h1 _ (List.mem_cons_of_mem _ (List.mem_cons_self ..)))
  exact ⟨h2, h3.1, fun k hk => by have := h3.2 k hk; have := h2.lo1; have := h2.hi2; omega⟩
theorem stepsL_len (x : HT) : ∀ (zs a : List Int), (stepsL x a zs).length ≤ zs.length
  | [], _ => Nat.zero_le _
  | f :: zs, a => by
    simp only [stepsL, List.length_cons]
    split
    · have := stepsL_len x zs (nextL x a (nextV x a f)); omega
    · simp

theorem rtInt : RowTy Try.prog 26 3 1 8 (.int .i64 0) := by
  obtain ⟨i, h1, h2, h3, h4⟩ := info_parts (show (Try.prog.info? 3).map (fun i => (i.zero, i.size, i.bytes)) = some (some (.int .i64 0), 1, 8) by kernel_rfl)
  exact ⟨by kernel_rfl, ⟨i, h1, h2, h3, h4⟩, rfl, by omega, by omega⟩

/-- What the body of RunOf's loop has made: out's box, and the row that it owns. -/
def RunI (n0 bo : Nat) (w : World) (pre : List (List Int × List Int)) (M : Nat → Prop) (W : World) : Prop :=
  ∃ v, Boxed W bo 26 v ∧ W.ownsRow n0 3 1 v (pre.length + 1) ((0 :: pre.map fun s => gi s.2 0).map fun z => Value.int .i64 z) ∧ Below n0 w W ∧ (∀ k, v.ownBlock = some k → M k) ∧ M bo ∧ (∀ k, M k → k < W.heap.size ∧ n0 ≤ k)

theorem agree_blk {B : Nat} {M : Nat → Prop} {W1 W2 : World} (h : Agree B M W1 W2) {b : Nat} {o : Obj} (hM : M b) (hb : W1.heap[b]? = some o) : W2.heap[b]? = some o :=
  (h.same b (Array.getElem?_eq_some_iff.1 hb).1 hM).trans hb
theorem RunI.agree {B n0 bo : Nat} {w : World} {pre : List (List Int × List Int)} {M : Nat → Prop} {W1 W2 : World} (h : RunI n0 bo w pre M W1) (hag : Agree B M W1 W2) (hB : n0 ≤ B) : RunI n0 bo w pre M W2 := by
  obtain ⟨v, hv, hr, hb, hvm, hbm, hm⟩ := h
  refine ⟨v, agree_blk hag hbm hv, ⟨hr.1, ?_⟩, hb.trans (hag.below.mono hB), hvm, hbm, fun k hk => ⟨Nat.lt_of_lt_of_le (hm k hk).1 hag.size, (hm k hk).2⟩⟩
  rcases hr.2 with hn | ⟨g, cap, cur, rfl, hbg, hg, rest⟩
  · exact .inl hn
  · exact .inr ⟨g, cap, cur, rfl, hbg, agree_blk hag (hvm g rfl) hg, rest⟩

theorem RunI.more {n0 bo : Nat} {w : World} {pre : List (List Int × List Int)} {M M' : Nat → Prop} {W : World} (h : RunI n0 bo w pre M W) (h1 : ∀ k, M k → M' k) (h2 : ∀ k, M' k → k < W.heap.size ∧ n0 ≤ k) : RunI n0 bo w pre M' W := by
  obtain ⟨v, hv, hr, hb, hvm, hbm, -⟩ := h
  exact ⟨v, hv, hr, hb, fun k hk => h1 k (hvm k hk), h1 _ hbm, h2⟩

set_option maxHeartbeats 1600000 in
set_option maxRecDepth 100000 in
theorem RunOf_ok (x : HT) (zs : List Int) (a : Option Addr) (cap : Nat) (w : World) (hlen : zs.length ≤ maxLen) (hr : Reads w a zs.length (ints zs)) (he : runE x zs = 0) :
    Calls Try.prog 17 #[.agg x.cells, .slice a zs.length cap] w fun e w' => ∃ a' cap', e = .returned (.tuple #[.slice a' (runL x zs).length cap', .int .i64 0]) ∧ Reads w' a' (runL x zs).length (ints (runL x zs)) ∧ Below w.heap.size w w' := by
  have hne : (runE x zs != 0) = false := by simpa using he
  obtain ⟨hx, hfew, hz⟩ := runE_zero he
  clear he
  have HZ := zH hz
  clear hz
  have hR := zH hr
  clear hr
  refine (callsIn_wide (n := 5)).1 ?_
  refine callsIn_of_wp_marks Try.func17 rfl trivial ?_ rfl
  simp only [Try.ntmps17, List.size_toArray, List.length_cons, List.length_nil, Nat.reduceAdd, Nat.reduceSub, Array.replicate_succ, Array.replicate_zero, List.push_toArray, List.append_toArray, List.nil_append, List.cons_append]
  gi_wp2_with fail
  obtain ⟨W, hW⟩ : ∃ W, w.alloc (.cells x.cells 25) = W := ⟨_, rfl⟩
  rw [hW]
  have K0 : Hid (Blk W w.heap.size x.cells) := by subst hW; exact Blk.new _ _ _
  have HB : Hid (Below w.heap.size w W) := by subst hW; exact bAlloc (bSelf w) _
  replace hR : Hid (Reads W a zs.length (ints zs)) := by subst hW; exact hR.out.alloc _
  clear hW
  refine wpIn_wide.2 ?_
  refine wp_region_quiet_tail 5 (fun w' => Below (World.heap W).size (W) w') (by kernel_rfl) (by kernel_rfl) (Below.refl _ _).drew ?_
  simp only [List.take_succ_cons, List.take_zero, List.drop_succ_cons, List.drop_zero]
  repeat (first | (refine wpQuiet_no (by rfl) ?_; (simp only [Act.put, zzT, zzO, zzS])) | (refine wpQuiet_yes (by rfl) ?_; apply Exists.intro; refine ⟨fun w1 hb1 => ?_, ?_⟩; (focus (((obtain ⟨-, k0, -⟩ := K0.out.to hb1); have hb1 := zH hb1; go_simp); (try (go_bits; try go_simp)); (first | done | ((first | (go_at_call 28; refine (CheckTest_any x _).mono ?_; rintro e w' ⟨rfl, hb⟩; exact ⟨rfl, bThen hb1.out hb⟩) | (go_at_call 45; refine (forcesErr_any x zs a cap _ hlen (hR.out.to hb1.out)).mono ?_; rintro e w' ⟨rfl, hb⟩; exact ⟨rfl, bThen hb1.out hb⟩))) | (with_reducible rfl) | exact rfl))); (simp only [Act.put, zzT, zzO, zzS])))
  refine wpQuiet_nil ?_
  intro w1 hb1
  have hb1 := zH hb1
  go_wp2_with fail
  refine (first2_new _ _ _ _ (by simp)).mono ?_
  rintro e w' ⟨rfl, rfl⟩
  have e1 : firstE [testE x, forcesE x zs] = runE x zs := rfl
  rw [e1]
  clear e1
  obtain ⟨W2, hW2⟩ : ∃ W2, w1.alloc (.cells #[.int .i64 (testE x), .int .i64 (forcesE x zs)] 31) = W2 := ⟨_, rfl⟩
  rw [hW2]
  replace K0 : Hid (Blk W2 w.heap.size x.cells) := by subst hW2; exact (K0.out.to hb1.out).alloc _
  replace HB : Hid (Below w.heap.size w W2) := by subst hW2; exact bAlloc (bThen HB.out hb1.out) _
  replace hR : Hid (Reads W2 a zs.length (ints zs)) := by subst hW2; exact (hR.out.to hb1.out).alloc _
  clear hW2
  obtain ⟨hsz, k0, -⟩ := K0.out
  go_wp2_with fail
  gi_wp2_with fail
  refine ⟨trivial, (callsIn_wide.2 (steps_any x a zs.length cap _)).mono ?_⟩
  rintro e w' ⟨rfl, rfl⟩
  obtain ⟨W3, hW3⟩ : ∃ W3, (((W2.alloc (.cells #[.int .i64 0] 3)).alloc (.cells #[.slice (some ⟨W2.heap.size, 0, none⟩) 1 1] 26)).alloc (.cells x.cells 68)).alloc (.cells #[.slice a zs.length cap] 26) = W3 := ⟨_, rfl⟩
  rw [hW3]
  have hsz3 : W3.heap.size = W2.heap.size + 4 := by subst hW3; simp
  have KX : Hid (Blk W3 (W2.heap.size + 2) x.cells) := by subst hW3; exact (Blk.newAt _ _ _ (by simp)).alloc _
  have KZ : Hid (Blk W3 (W2.heap.size + 3) #[.slice a zs.length cap]) := by subst hW3; exact Blk.newAt _ _ _ (by simp)
  replace HB : Hid (Below w.heap.size w W3) := by subst hW3; exact bAlloc (bAlloc (bAlloc (bAlloc HB.out _) _) _) _
  have hRlt := hR
  replace hR : Hid (Reads W3 a zs.length (ints zs)) := by subst hW3; exact (((hR.out.alloc _).alloc _).alloc _).alloc _
  have HO : Hid (RunI w.heap.size (W2.heap.size + 1) w [] (fun k => k = W2.heap.size ∨ k = W2.heap.size + 1) W3) := by
    have hle := hsz
    refine zH ⟨.slice (some ⟨W2.heap.size, 0, none⟩) 1 1, ?_, ?_, HB.out, ?_, .inr rfl, ?_⟩
    · subst hW3
      have := Boxed.new (W2.alloc (.cells #[.int .i64 0] 3)) 26 (.slice (some ⟨W2.heap.size, 0, none⟩) 1 1)
      simp only [World.size_alloc] at this
      exact (this.alloc _).alloc _
    · subst hW3
      exact (((World.ownsRow_lit W2 #[.int .i64 0] 1 (by omega) (by decide) rfl).alloc _).alloc _).alloc _
    · intro k hk; simp only [Value.ownBlock, Option.some.injEq] at hk; exact .inl hk.symm
    · intro k hk; rw [hsz3]; rcases hk with rfl | rfl <;> omega
  clear hW3 k0
  have hsz3' : W2.heap.size + 4 ≤ W3.heap.size := by omega
  have HS3 := zH hsz3
  clear hsz3
  gi_wp2_with fail
  refine wpIn_rangeFunc_M (xs := stepsL x [0, 0, 0, 0] zs) rfl (by intro args w; go_simp) (steps1_in 4 x zs a cap (W2.heap.size + 2) (W2.heap.size + 3) W3 hx HZ.out hlen KX.out KZ.out hR.out) (bSelf _) (fun _ => rfl) ?hRd
    (RunI w.heap.size (W2.heap.size + 1) w) (fun _ _ _ => False) (fun k => k = W2.heap.size ∨ k = W2.heap.size + 1) ?hM (fun _ _ _ _ h hag => h.agree hag (by omega)) (fun _ _ _ _ _ h _ _ => h)
    (fun b pre s M1 a₁ W => RunI w.heap.size (W2.heap.size + 1) w pre M1 W ∧ ∃ bs, Blk W bs (stepC s) ∧ M1 bs ∧ bs ≠ W2.heap.size + 1 ∧ a₁ = { tmps := (b.tmps.setIfInBounds 24 (.agg (stepC s))).setIfInBounds 8 (.pointer (some ⟨bs, 0, none⟩)), defers := [] })
    ?hI1 HO.out ?hassign ?hbody ?hdone (fun _ _ _ _ _ _ _ _ h _ => h.elim)
  case hRd =>
    rintro k (rfl | rfl | ⟨h0, off, e⟩)
    · omega
    · omega
    · obtain ⟨b', off', e', h, -⟩ := hR.out.at (k := 0) h0
      rw [e] at e'; cases e'; exact h
  case hM =>
    intro k hk
    refine ⟨by rcases hk with rfl | rfl <;> omega, ?_⟩
    rintro (rfl | rfl | ⟨h0, off, e⟩)
    · rcases hk with h | h <;> omega
    · rcases hk with h | h <;> omega
    · obtain ⟨b', off', e', h, -⟩ := hRlt.out.at (k := 0) h0
      rw [e] at e'; cases e'
      rcases hk with rfl | rfl <;> omega
  case hI1 =>
    rintro pre s M1 a₁ Wa Wb ⟨hI, bs, hbs, hMb, hne', rfl⟩ hag
    refine ⟨hI.agree hag (by omega), bs, ?_, hMb, hne', rfl⟩
    have hh := hag.same bs hbs.1 hMb
    exact ⟨Nat.lt_of_lt_of_le hbs.1 hag.size, fun o => (World.cell?_of_block (w := Wa) (a := ⟨bs, o, none⟩) hh).trans (hbs.2.1 o), fun o => (World.frozen?_of_block (w := Wa) (a := ⟨bs, o, none⟩) hh).trans (hbs.2.2 o)⟩
  case hassign =>
    intro l pre s rest M1 Wa hxs hI hszA
    gi_wp2_with fail
    obtain ⟨-, -, -, -, -, -, hfit⟩ := id hI
    have hu := Upd.alloc (fun k hk => (hfit k hk).1) (W := Wa) (M := M1) (.cells (stepC s) 94)
    refine ⟨_, ⟨(hI.agree (Agree.of_below (bAlloc (bSelf Wa) (.cells (stepC s) 94)) (Nat.le_refl _)) (by omega)).more (fun k hk => .inl hk) (fun k hk => ⟨hu.fit k hk, by rcases hk with hk | hk; exact (hfit k hk).2; omega⟩), Wa.heap.size, Blk.new _ _ _, .inr rfl, by omega, rfl⟩, hu⟩
  case hbody =>
    rintro l pre s rest M1 a₁ Wa hxs ⟨⟨v, hv, hrow, hB, hvm, hbm, hfit⟩, bs, hbs, hMb, hne', rfl⟩ hszA
    simp only [zzT, zzO, zzS]
    obtain ⟨g, cap', rfl⟩ := ownsRow_succ hrow
    have hlen2 : pre.length ≤ 60 := by
      have h1 := stepsL_len x zs [0, 0, 0, 0]
      rw [hxs] at h1
      simp only [List.length_append, List.length_cons] at h1
      omega
    have hvc := hv.cell
    obtain ⟨-, kb, -⟩ := hbs
    have HROW := zH hrow
    have HV := zH hv
    have HBE := zH hB
    clear hrow hv hB
    gi_wp2_with (gi_at_builtin; refine wpListIn_app w.heap.size rtInt rfl (.tmp 25) (.tmp 29) rfl (.slice (some ⟨g, 0, none⟩) (pre.length + 1) cap') (pre.length + 1) _ rfl (HROW.out.alloc _) ⟨Wa.heap.size, 0, none⟩ 1 1 [.int .i64 (gi s.2 0)] rfl rfl (cell_one_new _ _ _) (by simp [Value.oneCell']) (by unfold maxLen; omega) (by omega) (by simp; omega) ?_; intro v' w2 hown' hgrow _ hwhere; obtain ⟨g', cap2, rfl⟩ := ownsRow_succ hown'; have hv1 := (HV.out.alloc _).kept hgrow (HV.out.not_row (by decide) HROW.out); have hc1 := hv1.cell; have hf1 := hv1.frozen; have HO' := zH hown'; have HG := zH hgrow; have HW := zH hwhere; have HV1 := zH hv1; clear hown' hgrow hwhere hv1)
    have HU := upd_appended (M := M1) (B := W2.heap.size + 1) (fun k hk => (hfit k hk).1) hbm hvm HO'.out HG.out (by have := HW.out; simpa using this)
    refine ⟨_, ⟨_, HV1.out.set _, ?_, HBE.out.trans (HU.below (by omega) (fun k hk => (hfit k hk).2)), fun k hk => .inr hk, .inl hbm, fun k hk => ⟨HU.fit k hk, ?_⟩⟩, HU⟩
    · have e1 : (pre ++ [s]).length + 1 = pre.length + 1 + 1 := by simp
      have e2 : ((0 :: (pre ++ [s]).map fun s => gi s.2 0).map fun z => Value.int .i64 z) = ((0 :: pre.map fun s => gi s.2 0).map fun z => Value.int .i64 z) ++ [.int .i64 (gi s.2 0)] := by simp
      rw [e1, e2]
      exact HO'.out.kept (grownBy_setCell' w2 (W2.heap.size + 1) _) (.inr (HV1.out.not_row (by decide) HO'.out).symm)
    · rcases hk with hk | hk
      · exact (hfit k hk).2
      · exact (HO'.out.lt k hk).1
  case hdone =>
    intro D M1 Wd hD hMD hI hdef
    obtain ⟨v, hv, hrow, hB, hvm, hbm, hfit⟩ := hI
    have hvc := hv.cell
    have HROW := zH hrow
    have HBE := zH hB
    have HD := zH hdef
    clear hrow hB hdef
    gi_wp2_with fail
    refine ⟨by simp, .inl ⟨_, _, rfl, run_takeDeferred HD.out, ?_⟩⟩
    have hl : (runL x zs).length = (stepsL x [0, 0, 0, 0] zs).length + 1 := by simp [runL]
    have hrow2 := ownsRow_putObj HROW.out (.deferred none) HD.out rfl
    rw [← hl] at hrow2
    obtain ⟨a', cap', rfl, hrd⟩ := Reads.of_owns (zs := runL x zs) hrow2
    refine ⟨_, results_tmp2 rfl _ _ _, a', cap', rfl, hrd, ?_⟩
    exact HBE.out.trans ((Below.refl _ _).grown (grownBy_putObj' Wd D _) (by have := HBE.out.size; omega) (fun k e => by cases e; omega))
end
end Go.Proofs.Ytfdlhhinomjakaa
