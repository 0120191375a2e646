/-
  Texts of this claim, in their build order: Y5 S1.
-/
import Derived.Test.YtjieojkfpoiabaaHalves36
import Derived.Test.YtjieojkfpoiabaaHalves39
import Derived.Test.YtjieojkfpoiabaaHalves29
import Derived.Test.YtjieojkfpoiabaaHalves23

/-
  The base's Gcd and IsLowest at any numbers; CopyFracs with a row of its own.
-/
namespace Go.Proofs.Ytjieojkfpoiabaa
open Go.RowKit

set_option maxHeartbeats 800000 in
set_option maxRecDepth 100000 in
theorem bGcd_pos (x y : Int) (w : World) (hx0 : -9223372036854775808 ≤ x) (hx1 : x ≤ 9223372036854775807) (hy0 : 0 < y) (hy1 : y ≤ 9223372036854775807) :
    Calls Try.prog 110 #[.int .i64 x, .int .i64 y] w fun e w' => e = .returned (.int .i64 (Int.gcd x y : Nat)) ∧ Below w.heap.size w w' := by
  go_enter Try.func110, Try.ntmps110
  go_wp2_with fail
  go_loopw [0, 1] (fun p q wr => ∃ x' y' : Int, p = .int .i64 x' ∧ q = .int .i64 y' ∧ Hid (Int.gcd x' y' = Int.gcd x y) ∧ -9223372036854775808 ≤ x' ∧ x' ≤ 9223372036854775807 ∧ -9223372036854775807 ≤ y' ∧ y' ≤ 9223372036854775807 ∧ Hid (-9223372036854775807 ≤ x' ∨ 0 < y') ∧ Hid (Below w.heap.size w wr)) (fun _ q _ => (intOf q).natAbs)
  case atStart => exact ⟨x, y, rfl, rfl, Lib.hid rfl, hx0, hx1, by omega, hy1, Lib.hid (.inr hy0), Lib.hid (bSelf w)⟩
  case round =>
    obtain ⟨x', y', rfl, rfl, hg, hx0', hx1', hy0', hy1', hc, hb⟩ := hrel
    by_cases h0 : y' = 0
    · subst h0
      have hx2 : -9223372036854775807 ≤ x' := by have := hc.out; omega
      go_wp2_with fail
      have HS : Hid (∀ W, Calls Try.prog 21 #[.int .i64 x'] W fun e w' => e = .returned (.int .i64 (Int.gcd x y : Nat)) ∧ W = w') := Lib.hid (fun W => by
        rw [← hg.out]
        simp only [Int.gcd_zero_right]
        go_enter Try.func21, Try.ntmps21
        go_wp2
        all_goals
          go_ret
          exact ⟨ret_int (by omega), rfl⟩)
      refine (HS.out _).mono ?_
      rintro e w' ⟨rfl, rfl⟩
      go_wp2_with fail
      go_ret
      exact ⟨rfl, hb.out⟩
    · have h0' : (y' == 0) = false := by simpa using h0
      have hcc := hc.out
      have hm : (x'.tmod y').natAbs < y'.natAbs := by rw [Int.natAbs_tmod]; exact Nat.mod_lt _ (by omega)
      have hng : ¬ (x' = -9223372036854775808 ∧ y' = -1) := by omega
      have HM := Lib.hid hm
      clear hm hcc
      go_wp2_with fail
      refine wp_region_quiet_all (fun w' => Below (World.heap wr).size (wr) w') (by kernel_rfl) (by kernel_rfl) (Below.refl _ _).drew ?_
      refine WQ.out ?_
      repeat (first | (refine WQ_no (by rfl) ?_; (simp only [Act.put, List.setIfInBounds_toArray, List.set_cons_zero, List.set_cons_succ])) | (refine WQ_yes (by rfl) ?_; apply Exists.intro; refine ⟨fun w1 hb1 => ?_, ?_⟩; (focus ((skip; have hb1 := Lib.hid hb1; go_simp); (try (go_bits; try go_simp)); (try (rw [if_pos (by omega)]; try go_simp)); (first | done | (fail) | (with_reducible rfl) | exact rfl))); (simp only [Act.put, List.setIfInBounds_toArray, List.set_cons_zero, List.set_cons_succ])))
      refine WQ_nil ?_
      intro w1 hb1
      have hb2 := Lib.hid (bThen hb.out hb1)
      clear hb1
      go_wp2_with fail
      go_roundw
      case rel => have hm := HM.out; exact ⟨y', x'.tmod y', rfl, rfl, Lib.hid (gcd_step.trans hg.out), by omega, by omega, by omega, by omega, Lib.hid (.inl (by omega)), hb2⟩
      case measure => exact HM.out

set_option maxHeartbeats 400000 in
theorem IsLowest_i64 (p : Int × Int) (w : World) (hp : I64 p) :
    Calls Try.prog 61 #[.agg #[.int .i64 p.1, .int .i64 p.2]] w fun e w' => e = .returned (.bool (lowB p.1 p.2)) ∧ Below w.heap.size w w' := by
  obtain ⟨n, m⟩ := p
  obtain ⟨n0, n1, m0, m1⟩ := hp
  dsimp only at n0 n1 m0 m1 ⊢
  have hD := Lib.hid (fun W (h : 0 < m) => bGcd_pos n m W n0 n1 h m1)
  unfold lowB
  obtain ⟨g, hg⟩ : ∃ g : Int, ((Int.gcd n m : Nat) : Int) = g := ⟨_, rfl⟩
  rw [hg] at hD ⊢
  clear hg
  by_cases h : 0 < m
  · have h1 : decide (0 < m) = true := decide_eq_true h
    rw [h1, Bool.true_and]
    go_enter Try.func61, Try.ntmps61
    go_wp2_with fail
    refine (hD.out _ h).mono ?_
    rintro e w1 ⟨rfl, hb⟩
    have HB := Lib.hid (bThen (bAlloc (bSelf w) _) hb)
    clear hb
    go_wp2_with fail
    go_ret
    exact ⟨rfl, HB.out⟩
  · have h1 : decide (0 < m) = false := decide_eq_false h
    rw [h1, Bool.false_and]
    go_enter Try.func61, Try.ntmps61
    go_wp2_with fail
    go_ret
    exact ⟨rfl, bAlloc (bSelf w) _⟩

/-- A list of fractions in a row of its own. -/
def FOwn (l : List (Int × Int)) (w : World) (e : Ending) (w' : World) : Prop := ∃ v, e = .returned v ∧ w'.ownsRow w.heap.size 86 2 v l.length (fcells l) ∧ Below w.heap.size w w'
set_option maxHeartbeats 400000 in
set_option maxRecDepth 100000 in
theorem CopyFracs_own (ms : List (Int × Int)) (a : Option Addr) (cap : Nat) (w : World) (hfew : ms.length ≤ 100000) (hr : Reads w a (ms.length * 2) (fracs ms)) :
    Calls Try.prog 65 #[.slice a ms.length cap] w fun e w' => FOwn ms w e w' := by
  cases a with
  | none =>
    have h0 : ms.length = 0 := by
      rcases hr with h | ⟨b, off, e, -⟩
      · omega
      · cases e
    have h1 : ms = [] := List.length_eq_zero_iff.1 h0
    subst h1
    go_enter Try.func65, Try.ntmps65
    go_wp2_with fail
    go_ret
    exact ⟨_, rfl, World.ownsRow_lit w #[] 0 (Nat.le_refl _) (by decide) rfl, bAlloc (bSelf w) _⟩
  | some ad =>
    have HR := Lib.hid hr
    clear hr
    have HN := Lib.hid (Reads.newsF (HR.out.alloc (.cells #[] 86)))
    have hcl := Lib.hid (fcells_len ms)
    go_enter Try.func65, Try.ntmps65
    go_wp2_with (at_builtin; refine wpList_app w.heap.size rtFrac rfl (.tmp 3) (.tmp 4) rfl (.slice (some ⟨w.heap.size, 0, none⟩) 0 0) 0 [] rfl (World.ownsRow_lit w #[] 0 (Nat.le_refl _) (by decide) rfl) ad ms.length cap (fcells ms) rfl hcl.out HN.out (onesF _) (by unfold maxLen; omega) (by omega) (by simp) ?_; intro v' w2 hown' hgrow _ hwhere; have HO := Lib.hid hown'; have HBB : Hid (Below w.heap.size w w2) := Lib.hid ((bAlloc (bSelf w) _).grown hgrow (by simp) (fun k e => by cases e; exact Nat.le_refl _)); clear hown' hgrow hwhere)
    go_ret
    have hrow := HO.out
    rw [Nat.zero_add, List.nil_append] at hrow
    exact ⟨_, rfl, hrow, HBB.out⟩

end Go.Proofs.Ytjieojkfpoiabaa

/-
  Copies in rows of their own: whole numbers, a chain, halves.
-/
namespace Go.Proofs.Ytjieojkfpoiabaa
open Go.RowKit

def IOwn (zs : List Int) (w : World) (e : Ending) (w' : World) : Prop := ∃ a cap, e = .returned (.slice a zs.length cap) ∧ zs.length ≤ cap ∧ Own w' w.heap.size a zs.length (ints zs) ∧ Below w.heap.size w w'
set_option maxHeartbeats 400000 in
set_option maxRecDepth 100000 in
theorem CopyInts_own (zs : List Int) (a : Option Addr) (cap : Nat) (w : World) (hfew : zs.length ≤ 100000) (hr : Reads w a zs.length (ints zs)) :
    Calls Try.prog 12 #[.slice a zs.length cap] w fun e w' => IOwn zs w e w' := by
  cases a with
  | none =>
    have h0 : zs.length = 0 := by
      rcases hr with h | ⟨b, off, e, -⟩
      · exact h
      · cases e
    have h1 : zs = [] := List.length_eq_zero_iff.1 h0
    subst h1
    go_enter Try.func12, Try.ntmps12
    go_wp2_with fail
    go_ret
    exact ⟨_, 0, rfl, Nat.le_refl _, ⟨fun p hp => by cases hp; exact ⟨Nat.le_refl _, by simp⟩, .inl rfl⟩, bAlloc (bSelf w) _⟩
  | some ad =>
    have HR := Lib.hid hr
    clear hr
    have HN := Lib.hid (Reads.news' (HR.out.alloc (.cells #[] 3)))
    have HF := Lib.hid hfew
    go_enter Try.func12, Try.ntmps12
    go_wp2_with (at_builtin; refine wpList_app w.heap.size rtInt rfl (.tmp 3) (.tmp 4) rfl (.slice (some ⟨w.heap.size, 0, none⟩) 0 0) 0 [] rfl (World.ownsRow_lit w #[] 0 (Nat.le_refl _) (by decide) rfl) ad zs.length cap (zs.map fun z => Value.int .i64 z) rfl (by simp) HN.out (ones _) (by unfold maxLen; omega) (by omega) (by simp) ?_; intro v' w2 hown' hgrow _ hwhere; have HO := Lib.hid hown'; have HBB : Hid (Below w.heap.size w w2) := Lib.hid ((bAlloc (bSelf w) _).grown hgrow (by simp) (fun k e => by cases e; exact Nat.le_refl _)); clear hown' hgrow hwhere)
    go_ret
    have hrow := HO.out
    rw [Nat.zero_add, List.nil_append] at hrow
    obtain ⟨a', cap', rfl, hcp, hrd⟩ := Own.of_row hrow ints_map
    rw [Nat.mul_one] at hrd
    exact ⟨a', cap', rfl, hcp, hrd, HBB.out⟩

/-- A copy of a chain, in rows of its own. -/
def COwn (ks fs : List Int) (w : World) (e : Ending) (w' : World) : Prop :=
  ∃ a1 c1 a2 c2, e = .returned (.agg (chV a1 ks.length c1 a2 fs.length c2)) ∧ ks.length ≤ c1 ∧ fs.length ≤ c2 ∧ Own w' w.heap.size a1 ks.length (ints ks) ∧ (∃ mid, w.heap.size ≤ mid ∧ (∀ p, a1 = some p → p.block < mid) ∧ Own w' mid a2 fs.length (ints fs)) ∧ Below w.heap.size w w'

set_option maxHeartbeats 800000 in
set_option maxRecDepth 100000 in
theorem CopyChain_own (ks fs : List Int) (a1 a2 : Option Addr) (c1 c2 : Nat) (w : World) (hk : ks.length ≤ 100000) (hf : fs.length ≤ 100000) (hr1 : Reads w a1 ks.length (ints ks)) (hr2 : Reads w a2 fs.length (ints fs)) :
    Calls Try.prog 47 #[.agg (chV a1 ks.length c1 a2 fs.length c2)] w fun e w' => COwn ks fs w e w' := by
  have H1 := Lib.hid (fun W (hb : Below w.heap.size w W) => CopyInts_own ks a1 c1 W hk (hr1.to hb))
  have H2 := Lib.hid (fun W (hb : Below w.heap.size w W) => CopyInts_own fs a2 c2 W hf (hr2.to hb))
  have HP : Hid (∀ e w', (∃ a1 c1 a2 c2, e = .returned (.agg (chV a1 ks.length c1 a2 fs.length c2)) ∧ ks.length ≤ c1 ∧ fs.length ≤ c2 ∧ Own w' w.heap.size a1 ks.length (ints ks) ∧ (∃ mid, w.heap.size ≤ mid ∧ (∀ p, a1 = some p → p.block < mid) ∧ Own w' mid a2 fs.length (ints fs)) ∧ Below w.heap.size w w') → COwn ks fs w e w') := Lib.hid (fun e w' h => h)
  unfold IOwn at H1 H2
  obtain ⟨n1, hn1⟩ : ∃ n, ks.length = n := ⟨_, rfl⟩
  obtain ⟨n2, hn2⟩ : ∃ n, fs.length = n := ⟨_, rfl⟩
  rw [hn1] at H1 HP
  rw [hn2] at H2 HP
  rw [hn1, hn2]
  clear hn1 hn2 hk hf hr1 hr2
  go_enter Try.func47, Try.ntmps47
  go_upto_region 1 with (fail)
  obtain ⟨w3, hw3⟩ : ∃ w3, (w.alloc (.cells (chV a1 n1 c1 a2 n2 c2) 73)).alloc (.cells #[.slice none 0 0, .slice none 0 0] 73) = w3 := ⟨_, rfl⟩
  rw [hw3]
  have K0 : Hid (Blk w3 w.heap.size (chV a1 n1 c1 a2 n2 c2)) := by subst hw3; exact Lib.hid ((Blk.new _ _ _).alloc _)
  have K1 : Hid (Blk w3 (w.heap.size + 1) #[.slice none 0 0, .slice none 0 0]) := by subst hw3; exact Lib.hid (Blk.newAt _ _ _ (by simp))
  have HB : Hid (Below w.heap.size w w3) := by subst hw3; exact Lib.hid (bAlloc (bAlloc (bSelf w) _) _)
  clear hw3
  have hs3 : w.heap.size + 1 < w3.heap.size := K1.out.1
  refine wp_region_treeT 7 (by kernel_rfl) (by kernel_rfl) (fun wd hwd => ?_)
  have T := Lib.hid hwd
  clear hwd
  refine WE_yes 0 rfl (by kernel_rfl) (fun _ _ _ _ _ h => h) (by rfl) ?_; apply Exists.intro; refine ⟨fun w1 hb1 => ?_, ?_⟩; (focus ((skip; have hb1 := Lib.hid hb1; go_simp); (try (go_bits; try go_simp)); (try (rw [if_pos (by omega)]; try go_simp)); (first | done | (fail) | (with_reducible rfl) | exact rfl)))
  simp only [Act.put, List.setIfInBounds_toArray, List.set_cons_zero, List.set_cons_succ]
  refine WE_yes 1 rfl (by kernel_rfl) (fun _ _ _ _ _ h => h) (by rfl) ?_; apply Exists.intro; refine ⟨fun w1 hb1 => ?_, ?_⟩; (focus (((obtain ⟨-, k0, -⟩ := K0.out.to (T.out.trans hb1)); have hb1 := Lib.hid hb1; go_simp); (try (go_bits; try go_simp)); (try (rw [if_pos (by omega)]; try go_simp)); (first | done | (fail) | (with_reducible rfl) | exact rfl)))
  simp only [Act.put, List.setIfInBounds_toArray, List.set_cons_zero, List.set_cons_succ]
  refine WE_yes 3 rfl (by kernel_rfl) (fun _ _ _ _ _ h => h) (by rfl) ?_; apply Exists.intro; refine ⟨fun w1 hb1 => ?_, ?_⟩; (focus ((skip; have hb1 := Lib.hid hb1; go_simp); (try (go_bits; try go_simp)); (try (rw [if_pos (by omega)]; try go_simp)); (first | done | (fail) | (with_reducible rfl) | exact rfl)))
  simp only [Act.put, List.setIfInBounds_toArray, List.set_cons_zero, List.set_cons_succ]
  refine WE_yes 4 rfl (by kernel_rfl) (fun _ _ _ _ _ h => h) (by rfl) ?_; apply Exists.intro; refine ⟨fun w1 hb1 => ?_, ?_⟩; (focus (((obtain ⟨-, k0, -⟩ := K0.out.to (T.out.trans hb1)); have hb1 := Lib.hid hb1; go_simp); (try (go_bits; try go_simp)); (try (rw [if_pos (by omega)]; try go_simp)); (first | done | (fail) | (with_reducible rfl) | exact rfl)))
  simp only [Act.put, List.setIfInBounds_toArray, List.set_cons_zero, List.set_cons_succ]
  refine WE_one 2 rfl (by decide) (by kernel_rfl) ?_
  unfold stepE
  go_wp2_with fail
  refine (H1.out _ (bThen HB.out T.out)).mono ?_
  rintro e w4 ⟨b1, d1, rfl, hd1, hr1, hb⟩
  have HR1 := Lib.hid hr1
  have HSD : Hid (w3.heap.size ≤ wd.heap.size) := Lib.hid T.out.size
  have HS4 : Hid (wd.heap.size ≤ w4.heap.size) := Lib.hid hb.size
  have HP1 := Lib.hid (fun p (hp : b1 = some p) => (hr1.1 p hp).2)
  have hbd := Lib.hid (hb.mono T.out.size)
  replace T := Lib.hid (T.out.trans hbd.out)
  clear hb hr1
  go_wp2_with fail
  refine ⟨hbd.out, ?_⟩
  clear hbd
  refine WE_one 5 rfl (by decide) (by kernel_rfl) ?_
  unfold stepE
  go_wp2_with fail
  refine (H2.out _ (bThen HB.out T.out)).mono ?_
  rintro e w5 ⟨b2, d2, rfl, hd2, hr2, hb⟩
  have HR2 := Lib.hid hr2
  replace HR1 := Lib.hid (HR1.out.to hb)
  have hbd := Lib.hid (hb.mono T.out.size)
  replace T := Lib.hid (T.out.trans hbd.out)
  clear hb hr2
  go_wp2_with fail
  refine ⟨hbd.out, ?_⟩
  clear hbd
  refine WE_yes 6 rfl (by kernel_rfl) (fun _ _ _ _ _ h => h) (by rfl) ?_; apply Exists.intro; refine ⟨fun w1 hb1 => ?_, ?_⟩; (focus ((skip; have hb1 := Lib.hid hb1; go_simp); (try (go_bits; try go_simp)); (try (rw [if_pos (by omega)]; try go_simp)); (first | done | (fail) | (with_reducible rfl) | exact rfl)))
  simp only [Act.put, List.setIfInBounds_toArray, List.set_cons_zero, List.set_cons_succ]
  replace K1 := Lib.hid (K1.out.to T.out)
  replace HB := Lib.hid (bThen HB.out T.out)
  refine WE_tail rfl (by kernel_rfl) ?_
  simp only [List.drop_succ_cons, List.drop_zero]
  obtain ⟨hk1, k1, f1⟩ := K1.out
  go_wp2_with fail
  clear k1 f1
  have F := ((K1.out.set 0 (.slice b1 n1 d1)).set 1 (.slice b2 n2 d2)).2.1
  have F0 := F 0; have F1 := F 1
  clear F
  have hsd := HSD.out
  have hs4 := HS4.out
  refine bodyPost_ret (v := .agg (chV b1 n1 d1 b2 n2 d2)) ?_ rfl (HP.out _ _ ⟨b1, d1, b2, d2, rfl, hd1, hd2, ((HR1.out.other _ _ ?_).other _ _ ?_).le (by omega), ⟨w4.heap.size, by omega, HP1.out, (HR2.out.other _ _ ?_).other _ _ ?_⟩, (HB.out.setCell (p := ⟨w.heap.size + 1, 0, none⟩) (by dsimp only; omega) _).setCell (p := ⟨w.heap.size + 1, 1, none⟩) (by dsimp only; omega) _⟩)
  · simp [results, Try.results47, go_sem, F0, F1]
  · dsimp only; omega
  · dsimp only; omega
  · dsimp only; omega
  · dsimp only; omega

def FRow (l : List (Int × Int)) (w : World) (e : Ending) (w' : World) : Prop := ∃ a cap, e = .returned (.slice a l.length cap) ∧ l.length ≤ cap ∧ Own w' w.heap.size a (l.length * 2) (fracs l) ∧ Below w.heap.size w w'
theorem CopyFracs_row (ms : List (Int × Int)) (a : Option Addr) (cap : Nat) (w : World) (hfew : ms.length ≤ 100000) (hr : Reads w a (ms.length * 2) (fracs ms)) :
    Calls Try.prog 65 #[.slice a ms.length cap] w fun e w' => FRow ms w e w' := by
  refine (CopyFracs_own ms a cap w hfew hr).mono ?_
  rintro e w' ⟨v, rfl, hown, hb⟩
  obtain ⟨a', cap', rfl, hcp, hrd⟩ := Own.of_row (f := fracs ms) hown (fun i hi => fcells_get ms i hi)
  exact ⟨a', cap', rfl, hcp, hrd, hb⟩

/-- A copy of halves, in rows of their own. -/
def HOwn (ls us : List (Int × Int)) (F : Int) (w : World) (e : Ending) (w' : World) : Prop :=
  ∃ a1 c1 a2 c2, e = .returned (.agg (hvV a1 ls.length c1 a2 us.length c2 F)) ∧ ls.length ≤ c1 ∧ us.length ≤ c2 ∧ Own w' w.heap.size a1 (ls.length * 2) (fracs ls) ∧ (∃ mid, w.heap.size ≤ mid ∧ (∀ p, a1 = some p → p.block < mid) ∧ Own w' mid a2 (us.length * 2) (fracs us)) ∧ Below w.heap.size w w'

set_option maxHeartbeats 800000 in
set_option maxRecDepth 100000 in
theorem CopyHalves_own (ls us : List (Int × Int)) (F : Int) (a1 a2 : Option Addr) (c1 c2 : Nat) (w : World) (hk : ls.length ≤ 100000) (hf : us.length ≤ 100000) (hr1 : Reads w a1 (ls.length * 2) (fracs ls)) (hr2 : Reads w a2 (us.length * 2) (fracs us)) :
    Calls Try.prog 51 #[.agg (hvV a1 ls.length c1 a2 us.length c2 F)] w fun e w' => HOwn ls us F w e w' := by
  have H1 := Lib.hid (fun W (hb : Below w.heap.size w W) => CopyFracs_row ls a1 c1 W hk (hr1.to hb))
  have H2 := Lib.hid (fun W (hb : Below w.heap.size w W) => CopyFracs_row us a2 c2 W hf (hr2.to hb))
  have HP : Hid (∀ e w', (∃ a1 c1 a2 c2, e = .returned (.agg (hvV a1 ls.length c1 a2 us.length c2 F)) ∧ ls.length ≤ c1 ∧ us.length ≤ c2 ∧ Own w' w.heap.size a1 (ls.length * 2) (fracs ls) ∧ (∃ mid, w.heap.size ≤ mid ∧ (∀ p, a1 = some p → p.block < mid) ∧ Own w' mid a2 (us.length * 2) (fracs us)) ∧ Below w.heap.size w w') → HOwn ls us F w e w') := Lib.hid (fun e w' h => h)
  unfold FRow at H1 H2
  obtain ⟨n1, hn1⟩ : ∃ n, ls.length = n := ⟨_, rfl⟩
  obtain ⟨n2, hn2⟩ : ∃ n, us.length = n := ⟨_, rfl⟩
  rw [hn1] at H1 HP
  rw [hn2] at H2 HP
  rw [hn1, hn2]
  clear hn1 hn2 hk hf hr1 hr2
  go_enter Try.func51, Try.ntmps51
  go_upto_region 1 with (fail)
  obtain ⟨w3, hw3⟩ : ∃ w3, (w.alloc (.cells (hvV a1 n1 c1 a2 n2 c2 F) 76)).alloc (.cells #[.slice none 0 0, .slice none 0 0, .int .i64 0] 76) = w3 := ⟨_, rfl⟩
  rw [hw3]
  have K0 : Hid (Blk w3 w.heap.size (hvV a1 n1 c1 a2 n2 c2 F)) := by subst hw3; exact Lib.hid ((Blk.new _ _ _).alloc _)
  have K1 : Hid (Blk w3 (w.heap.size + 1) #[.slice none 0 0, .slice none 0 0, .int .i64 0]) := by subst hw3; exact Lib.hid (Blk.newAt _ _ _ (by simp))
  have HB : Hid (Below w.heap.size w w3) := by subst hw3; exact Lib.hid (bAlloc (bAlloc (bSelf w) _) _)
  clear hw3
  have hs3 : w.heap.size + 1 < w3.heap.size := K1.out.1
  refine wp_region_treeT 9 (by kernel_rfl) (by kernel_rfl) (fun wd hwd => ?_)
  have T := Lib.hid hwd
  clear hwd
  refine WE_yes 0 rfl (by kernel_rfl) (fun _ _ _ _ _ h => h) (by rfl) ?_; apply Exists.intro; refine ⟨fun w1 hb1 => ?_, ?_⟩; (focus ((skip; have hb1 := Lib.hid hb1; go_simp); (try (go_bits; try go_simp)); (try (rw [if_pos (by omega)]; try go_simp)); (first | done | (fail) | (with_reducible rfl) | exact rfl)))
  simp only [Act.put, List.setIfInBounds_toArray, List.set_cons_zero, List.set_cons_succ]
  refine WE_yes 1 rfl (by kernel_rfl) (fun _ _ _ _ _ h => h) (by rfl) ?_; apply Exists.intro; refine ⟨fun w1 hb1 => ?_, ?_⟩; (focus (((obtain ⟨-, k0, -⟩ := K0.out.to (T.out.trans hb1)); have hb1 := Lib.hid hb1; go_simp); (try (go_bits; try go_simp)); (try (rw [if_pos (by omega)]; try go_simp)); (first | done | (fail) | (with_reducible rfl) | exact rfl)))
  simp only [Act.put, List.setIfInBounds_toArray, List.set_cons_zero, List.set_cons_succ]
  refine WE_yes 3 rfl (by kernel_rfl) (fun _ _ _ _ _ h => h) (by rfl) ?_; apply Exists.intro; refine ⟨fun w1 hb1 => ?_, ?_⟩; (focus ((skip; have hb1 := Lib.hid hb1; go_simp); (try (go_bits; try go_simp)); (try (rw [if_pos (by omega)]; try go_simp)); (first | done | (fail) | (with_reducible rfl) | exact rfl)))
  simp only [Act.put, List.setIfInBounds_toArray, List.set_cons_zero, List.set_cons_succ]
  refine WE_yes 4 rfl (by kernel_rfl) (fun _ _ _ _ _ h => h) (by rfl) ?_; apply Exists.intro; refine ⟨fun w1 hb1 => ?_, ?_⟩; (focus (((obtain ⟨-, k0, -⟩ := K0.out.to (T.out.trans hb1)); have hb1 := Lib.hid hb1; go_simp); (try (go_bits; try go_simp)); (try (rw [if_pos (by omega)]; try go_simp)); (first | done | (fail) | (with_reducible rfl) | exact rfl)))
  simp only [Act.put, List.setIfInBounds_toArray, List.set_cons_zero, List.set_cons_succ]
  refine WE_yes 6 rfl (by kernel_rfl) (fun _ _ _ _ _ h => h) (by rfl) ?_; apply Exists.intro; refine ⟨fun w1 hb1 => ?_, ?_⟩; (focus ((skip; have hb1 := Lib.hid hb1; go_simp); (try (go_bits; try go_simp)); (try (rw [if_pos (by omega)]; try go_simp)); (first | done | (fail) | (with_reducible rfl) | exact rfl)))
  simp only [Act.put, List.setIfInBounds_toArray, List.set_cons_zero, List.set_cons_succ]
  refine WE_yes 7 rfl (by kernel_rfl) (fun _ _ _ _ _ h => h) (by rfl) ?_; apply Exists.intro; refine ⟨fun w1 hb1 => ?_, ?_⟩; (focus (((obtain ⟨-, k0, -⟩ := K0.out.to (T.out.trans hb1)); have hb1 := Lib.hid hb1; go_simp); (try (go_bits; try go_simp)); (try (rw [if_pos (by omega)]; try go_simp)); (first | done | (fail) | (with_reducible rfl) | exact rfl)))
  simp only [Act.put, List.setIfInBounds_toArray, List.set_cons_zero, List.set_cons_succ]
  refine WE_one 2 rfl (by decide) (by kernel_rfl) ?_
  unfold stepE
  go_wp2_with fail
  refine (H1.out _ (bThen HB.out T.out)).mono ?_
  rintro e w4 ⟨b1, d1, rfl, hd1, hr1, hb⟩
  have HR1 := Lib.hid hr1
  have HSD : Hid (w3.heap.size ≤ wd.heap.size) := Lib.hid T.out.size
  have HS4 : Hid (wd.heap.size ≤ w4.heap.size) := Lib.hid hb.size
  have HP1 := Lib.hid (fun p (hp : b1 = some p) => (hr1.1 p hp).2)
  have hbd := Lib.hid (hb.mono T.out.size)
  replace T := Lib.hid (T.out.trans hbd.out)
  clear hb hr1
  go_wp2_with fail
  refine ⟨hbd.out, ?_⟩
  clear hbd
  refine WE_one 5 rfl (by decide) (by kernel_rfl) ?_
  unfold stepE
  go_wp2_with fail
  refine (H2.out _ (bThen HB.out T.out)).mono ?_
  rintro e w5 ⟨b2, d2, rfl, hd2, hr2, hb⟩
  have HR2 := Lib.hid hr2
  replace HR1 := Lib.hid (HR1.out.to hb)
  have hbd := Lib.hid (hb.mono T.out.size)
  replace T := Lib.hid (T.out.trans hbd.out)
  clear hb hr2
  go_wp2_with fail
  refine ⟨hbd.out, ?_⟩
  clear hbd
  refine WE_yes 8 rfl (by kernel_rfl) (fun _ _ _ _ _ h => h) (by rfl) ?_; apply Exists.intro; refine ⟨fun w1 hb1 => ?_, ?_⟩; (focus ((skip; have hb1 := Lib.hid hb1; go_simp); (try (go_bits; try go_simp)); (try (rw [if_pos (by omega)]; try go_simp)); (first | done | (fail) | (with_reducible rfl) | exact rfl)))
  simp only [Act.put, List.setIfInBounds_toArray, List.set_cons_zero, List.set_cons_succ]
  replace K1 := Lib.hid (K1.out.to T.out)
  replace HB := Lib.hid (bThen HB.out T.out)
  refine WE_tail rfl (by kernel_rfl) ?_
  simp only [List.drop_succ_cons, List.drop_zero]
  obtain ⟨hk1, k1, f1⟩ := K1.out
  go_wp2_with fail
  clear k1 f1
  have FF := (((K1.out.set 0 (.slice b1 n1 d1)).set 1 (.slice b2 n2 d2)).set 2 (.int .i64 F)).2.1
  have F0 := FF 0; have F1 := FF 1; have F2 := FF 2
  clear FF
  have hsd := HSD.out
  have hs4 := HS4.out
  refine bodyPost_ret (v := .agg (hvV b1 n1 d1 b2 n2 d2 F)) ?_ rfl (HP.out _ _ ⟨b1, d1, b2, d2, rfl, hd1, hd2, (((HR1.out.other _ _ ?_).other _ _ ?_).other _ _ ?_).le (by omega), ⟨w4.heap.size, by omega, HP1.out, ((HR2.out.other _ _ ?_).other _ _ ?_).other _ _ ?_⟩, ((HB.out.setCell (p := ⟨w.heap.size + 1, 0, none⟩) (by dsimp only; omega) _).setCell (p := ⟨w.heap.size + 1, 1, none⟩) (by dsimp only; omega) _).setCell (p := ⟨w.heap.size + 1, 2, none⟩) (by dsimp only; omega) _⟩)
  · simp [results, Try.results51, go_sem, F0, F1, F2]
  · dsimp only; omega
  · dsimp only; omega
  · dsimp only; omega
  · dsimp only; omega
  · dsimp only; omega
  · dsimp only; omega

end Go.Proofs.Ytjieojkfpoiabaa

