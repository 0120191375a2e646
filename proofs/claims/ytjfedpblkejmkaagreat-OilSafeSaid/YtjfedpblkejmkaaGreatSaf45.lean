/-
  Texts of this claim, in their build order: OR18 OW1 OW2 OW3 OW4 OR10 OR12.
-/
import Derived.Test.YtjfedpblkejmkaaGreatSaf44
import Derived.Test.YtjfedpblkejmkaaGreatSaf10
import Derived.Test.YtjfedpblkejmkaaGreatSaf20
import Derived.Test.YtjfedpblkejmkaaGreatSaf18
import Derived.Test.YtjfedpblkejmkaaGreatSaf30
import Derived.Test.YtjfedpblkejmkaaGreatSaf42
import Derived.Test.YtjfedpblkejmkaaGreatSaf43
import Derived.Test.YtjfedpblkejmkaaGreatSaf23

/-
  CopyStates of the reference; the law's membership.
-/
namespace Go.Proofs.YtjfedpblkejmkaaGreat
open Go.RowKit
attribute [local go_sem] Oper.semAt_some

def ostR (l : List OSt) (k j : Nat) : Value := osts l (k * 2 + j)
theorem recs_st (l : List OSt) : recs 2 (ostR l) = osts l := funext fun i => by unfold recs ostR; rw [Nat.div_add_mod' i 2]
theorem osts_one (l : List OSt) (i : Nat) : (osts l i).oneCell' = true := by unfold osts; split <;> rfl

set_option maxHeartbeats 800000 in
set_option maxRecDepth 100000 in
theorem rCopyStates_any (c : List OSt) (a : Option Addr) (cap : Nat) (w : World) (hfew : c.length ≤ 100000) (hr : Reads w a (c.length * 2) (osts c)) :
    Calls Tryz.prog 56 #[.slice a c.length cap] w fun e w' => ∃ a' cap', e = .returned (.slice a' c.length cap') ∧ c.length ≤ cap' ∧ Reads w' a' (c.length * 2) (osts c) ∧ Below w.heap.size w w' ∧ ∀ p, a' = some p → w.heap.size ≤ p.block := by
  cases a with
  | none =>
    have h0 : c.length = 0 := by
      rcases hr with h | ⟨b, off, e, -⟩
      · omega
      · cases e
    rw [h0]
    clear hr
    go_enter Tryz.func56, Tryz.ntmps56
    go_wp2_with fail
    go_ret
    exact ⟨_, _, rfl, by omega, .inl rfl, bAlloc (bSelf w) _, fun p hp => by cases hp; exact Nat.le_refl _⟩
  | some ad =>
    have hr2 := hr.alloc (.cells #[] 46)
    rw [← recs_st c] at hr2
    have HN := Lib.hid (Reads.newsR hr2)
    have HPO : Hid (∀ (u2 : World) (v : Value), u2.ownsRow w.heap.size 46 2 v c.length (rcells 2 (ostR c) c.length) → ∃ a' c', v = .slice a' c.length c' ∧ c.length ≤ c' ∧ Reads u2 a' (c.length * 2) (osts c) ∧ ∀ q, a' = some q → w.heap.size ≤ q.block) := Lib.hid (fun u2 v h => Reads.of_row (f := osts c) h (fun i hi => by rw [rcells_get hi, recs_st]))
    have HCL : Hid ((rcells 2 (ostR c) c.length).length = c.length * 2) := Lib.hid (rcells_len _ _ _)
    have HON := Lib.hid (onesR (s := 2) (f := ostR c) (n := c.length) (fun k j _ _ => osts_one c _))
    obtain ⟨n, hn⟩ : ∃ n, c.length = n := ⟨_, rfl⟩
    rw [hn] at HPO HCL HN HON hfew ⊢
    clear hr hr2 hn
    go_enter Tryz.func56, Tryz.ntmps56
    go_wp2_with (at_builtin; refine wpList_app w.heap.size rtSt rfl (.tmp 3) (.tmp 4) rfl (.slice (some ⟨w.heap.size, 0, none⟩) 0 0) 0 [] rfl (World.ownsRow_lit w #[] 0 (Nat.le_refl _) (by decide) rfl) ad n cap (rcells 2 (ostR c) n) rfl HCL.out HN.out HON.out (by unfold maxLen; omega) (by omega) (by simp) ?_; intro v' w2 hown' hgrow _ hwhere; have HO := Lib.hid hown'; have HBB : Hid (Below w.heap.size w w2) := Lib.hid ((bAlloc (bSelf w) _).grown hgrow (by simp) (fun k e => by cases e; exact Nat.le_refl _)); clear hown' hgrow hwhere)
    go_ret
    have hrow := HO.out
    rw [Nat.zero_add, List.nil_append] at hrow
    obtain ⟨a', cap', rfl, hcp, hrd, hfr⟩ := HPO.out _ _ hrow
    exact ⟨a', cap', rfl, hcp, hrd, HBB.out, hfr⟩

theorem inS_at {l : List OSt} {k : Nat} (h : k < l.length) : inS l (sg l k) = true := by
  rw [inS_iff]
  unfold sg
  rw [List.getD_eq_getElem?_getD, List.getElem?_eq_getElem h]
  exact List.getElem_mem h
theorem inS_no {l : List OSt} {s : OSt} (h : ∀ j, j < l.length → sg l j ≠ s) : inS l s = false := by
  rw [← Bool.not_eq_true, inS_iff]
  intro hm
  obtain ⟨j, hj, e⟩ := List.getElem_of_mem hm
  refine h j hj ?_
  unfold sg
  rw [List.getD_eq_getElem?_getD, List.getElem?_eq_getElem hj]
  exact e

set_option maxHeartbeats 1600000 in
set_option maxRecDepth 100000 in
theorem lIn_any (l : List OSt) (s : OSt) (a : Option Addr) (cap : Nat) (w : World) (hlen : l.length ≤ 100000) (hr : Reads w a (l.length * 2) (osts l)) :
    Calls Tryz.prog 66 #[.slice a l.length cap, .agg #[.int .i64 s.1, .bool s.2]] w fun e w' => e = .returned (.bool (inS l s)) ∧ Below w.heap.size w w' := by
  have HA := Lib.hid hr
  have HY := Lib.hid (fun k (hk : k < l.length) => inS_at hk)
  have HNO := Lib.hid (fun h => inS_no (l := l) (s := s) h)
  obtain ⟨rb, hrb⟩ : ∃ b, inS l s = b := ⟨_, rfl⟩
  have HRB := Lib.hid hrb
  rw [hrb] at HNO ⊢
  obtain ⟨n, hn⟩ : ∃ n, l.length = n := ⟨_, rfl⟩
  rw [hn] at HA HY HNO hlen ⊢
  obtain ⟨s1, s2⟩ := s
  dsimp only
  clear hr hn hrb
  go_enter Tryz.func66, Tryz.ntmps66
  go_wp2_with fail
  obtain ⟨W, hW⟩ : ∃ W, w.alloc (.cells #[.int .i64 s1, .bool s2] 46) = W := ⟨_, rfl⟩
  rw [hW]
  have K3 : Hid (Blk W w.heap.size #[.int .i64 s1, .bool s2]) := by subst hW; exact Lib.hid (Blk.new _ _ _)
  have HB : Hid (Below w.heap.size w W) := by subst hW; exact Lib.hid (bAlloc (bSelf w) _)
  replace HA := Lib.hid (HA.out.to HB.out)
  clear hW
  go_loopw [5] (fun i wr => ∃ k : Nat, k ≤ n ∧ i = .int .i64 k ∧ Hid (∀ j, j < k → sg l j ≠ (s1, s2)) ∧ Hid (Below W.heap.size W wr)) (fun i _ => n - (intOf i).toNat)
  case atStart => exact ⟨0, Nat.zero_le _, rfl, Lib.hid (by intro j h; omega), Lib.hid (bSelf W)⟩
  case round =>
    obtain ⟨k, hk, rfl, hp, hB⟩ := hrel
    by_cases hlt : k < n
    · obtain ⟨ba, oa, rfl, hba, hca⟩ := (HA.out.to hB.out).at (k := k * 2) (by omega)
      obtain ⟨⟨n1, d1⟩, hz⟩ : ∃ q, sg l k = q := ⟨_, rfl⟩
      have h1 : Hid (wr.cell? ⟨ba, oa + k * 2, none⟩ = some (.int .i64 n1)) := Lib.hid (by rw [hca _ (by omega), osts0, hz])
      have h2 : Hid (wr.cell? ⟨ba, oa + k * 2 + 1, none⟩ = some (.bool d1)) := Lib.hid (by rw [Nat.add_assoc, hca _ (by omega), osts1, hz])
      have HZ := Lib.hid hz
      have hyk := HY.out k hlt
      rw [hz] at hyk
      have HYK := Lib.hid hyk
      clear hca hz hyk HY
      by_cases he : (n1, d1) = (s1, s2)
      · cases he
        obtain rfl : rb = true := by rw [← HRB.out]; exact HYK.out
        go_wp2_with fail
        refine wp_region_quiet_all (fun w' => Below (World.heap wr).size (wr) w') (by kernel_rfl) (by kernel_rfl) (Below.refl _ _).drew ?_
        refine WQ.out ?_
        repeat (first | (refine WQ_no (by rfl) ?_; (simp only [Act.put, List.setIfInBounds_toArray, List.set_cons_zero, List.set_cons_succ])) | (refine WQ_yes (by rfl) ?_; apply Exists.intro; refine ⟨fun w1 hb1 => ?_, ?_⟩; (focus (((have k1 := (hb1.cell (p := ⟨ba, oa + k * 2, none⟩) hba).trans h1.out; have k2 := (hb1.cell (p := ⟨ba, oa + k * 2 + 1, none⟩) hba).trans h2.out; obtain ⟨-, k3, -⟩ := (K3.out.to hB.out).to hb1); have hb1 := Lib.hid hb1; go_simp); (try (go_bits; try go_simp)); (try (rw [if_pos (by omega)]; try go_simp)); (first | done | (fail) | (with_reducible rfl) | exact rfl))); (simp only [Act.put, List.setIfInBounds_toArray, List.set_cons_zero, List.set_cons_succ])))
        refine WQ_nil ?_
        intro w1 hb1
        go_wp2_with fail
        go_ret
        exact ⟨rfl, bThen HB.out (bThen hB.out hb1)⟩
      · have HE := Lib.hid he
        have hcs : (¬ n1 = s1) ∨ (n1 = s1 ∧ ¬ d1 = s2) := by
          by_cases h : n1 = s1
          · exact .inr ⟨h, fun h2 => he (by rw [h, h2])⟩
          · exact .inl h
        clear he
        rcases hcs with hn | ⟨rfl, hn⟩
        all_goals
          go_wp2_with fail
          refine wp_region_quiet_all (fun w' => Below (World.heap wr).size (wr) w') (by kernel_rfl) (by kernel_rfl) (Below.refl _ _).drew ?_
          refine WQ.out ?_
          repeat (first | (refine WQ_no (by rfl) ?_; (simp only [Act.put, List.setIfInBounds_toArray, List.set_cons_zero, List.set_cons_succ])) | (refine WQ_yes (by rfl) ?_; apply Exists.intro; refine ⟨fun w1 hb1 => ?_, ?_⟩; (focus (((have k1 := (hb1.cell (p := ⟨ba, oa + k * 2, none⟩) hba).trans h1.out; have k2 := (hb1.cell (p := ⟨ba, oa + k * 2 + 1, none⟩) hba).trans h2.out; obtain ⟨-, k3, -⟩ := (K3.out.to hB.out).to hb1); have hb1 := Lib.hid hb1; go_simp); (try (go_bits; try go_simp)); (try (rw [if_pos (by omega)]; try go_simp)); (first | done | (fail) | (with_reducible rfl) | exact rfl))); (simp only [Act.put, List.setIfInBounds_toArray, List.set_cons_zero, List.set_cons_succ])))
          refine WQ_nil ?_
          intro w1 hb1
          go_wp2_with fail
          go_roundw
          case rel =>
            refine ⟨k + 1, by omega, by go_num, Lib.hid (fun j hj => ?_), Lib.hid (bThen hB.out hb1)⟩
            by_cases h : j = k
            · subst h; rw [HZ.out]; exact HE.out
            · exact hp.out j (by omega)
          case measure => simp [intOf]; omega
    · obtain rfl : n = k := by omega
      obtain rfl : rb = false := HNO.out hp.out
      go_wp2_with fail
      go_ret
      exact ⟨rfl, bThen HB.out hB.out⟩

end Go.Proofs.YtjfedpblkejmkaaGreat

/-
  Plain laws for OilWitness: when there is no witness, what a run over demands answers.
-/
namespace Go.Proofs.YtjfedpblkejmkaaGreat

theorem witA_none {p : Plt} {s : OSt} {lim : Int} {c : List (Int × Int)} : witA p lim (tks p c [(s, [])]) = none ↔ ∀ k, k ≤ c.length → ∀ ds, inC (c.take k) ds → GdQ p s lim ds := by
  obtain ⟨h1, h2⟩ := wit_law (lim := lim) c [] [(s, [])] (LvOk.start p s)
  simp only [List.nil_append, List.length_nil] at h1 h2
  constructor
  · intro h k hk ds hd
    exact h2 h k (Nat.zero_le _) hk ds hd
  · intro h
    cases e : witA p lim (tks p c [(s, [])]) with
    | none => rfl
    | some w =>
      have hw := h1 w e
      exact absurd (h _ hw.len w hw.cls) hw.bad
theorem run_some {p : Plt} : ∀ {ds : List Int} {s t : OSt}, (∀ k, k < ds.length → wthn (gi ds k) 0 50 = true) → goQ p s ds = some t → (runA p s ds).2 = 0 ∧ (runA p s ds).1.length = ds.length ∧ sg (s :: (runA p s ds).1) ds.length = t
  | [], s, t, _, h => by
    have : s = t := by simpa [goQ] using h
    subst this
    exact ⟨rfl, rfl, rfl⟩
  | d :: ds, s, t, hf, h => by
    have h0 : wthn d 0 50 = true := hf 0 (by simp)
    have h' : (nxtA p s d).bind (fun u => goQ p u ds) = some t := h
    unfold runA
    rw [if_neg (by rw [h0]; simp)]
    cases e : nxtA p s d with
    | none => rw [e] at h'; cases h'
    | some u =>
      rw [e] at h'
      obtain ⟨r1, r2, r3⟩ := run_some (fun k hk => hf (k + 1) (by simp only [List.length_cons]; omega)) h'
      exact ⟨r1, by simp only [List.length_cons]; omega, r3⟩

end Go.Proofs.YtjfedpblkejmkaaGreat

/-
  Plain laws for OilWitness: the witness, its run, what is before it.
-/
namespace Go.Proofs.YtjfedpblkejmkaaGreat

theorem mem_rngL {r : Int × Int} {n : Int} (h : n ∈ rngL r) : r.1 ≤ n ∧ n ≤ r.2 := by
  unfold rngL at h
  obtain ⟨k, hk, rfl⟩ := List.mem_map.1 h
  have := List.mem_range.1 hk
  omega
end Go.Proofs.YtjfedpblkejmkaaGreat

/-
  Plain laws for OilWitness: the run of a witness.
-/
namespace Go.Proofs.YtjfedpblkejmkaaGreat

theorem rnR_ok {p : Plt} {s : OSt} {ds : List Int} (h : opSE p s.1 = 0) (hl : ds.length ≤ 20) : rnR p s ds = (runA p s ds).2 :=
  runR_of (firstE2.2 ⟨h, by rw [unlZ (by decide), decide_eq_true_eq]; omega⟩)
end Go.Proofs.YtjfedpblkejmkaaGreat

/-
  Plain law for OilWitness and OilEvery: classes of single demands, and classes of fewer ticks.
-/
namespace Go.Proofs.YtjfedpblkejmkaaGreat
open Go.RowKit

theorem eachR_nil {err : Nat → Int} : ∀ (n k : Nat), (∀ j, k ≤ j → j < k + n → err j = 0) → (eachR err k n).2 = 0
  | 0, _, _ => rfl
  | n + 1, k, h => by
    have h0 := h k (Nat.le_refl _) (by omega)
    have h1 := eachR_step (err := err) (k := k) (n := k + (n + 1)) (by omega) h0
    rw [show k + (n + 1) - k = n + 1 by omega, show k + (n + 1) - (k + 1) = n by omega] at h1
    rw [h1]
    exact eachR_nil n (k + 1) (fun j h2 h3 => h j (by omega) (by omega))
theorem rgE_of {r : Int × Int} (h0 : 0 ≤ r.1) (h1 : r.2 ≤ 50) (h2 : r.1 ≤ r.2) : rgE r = 0 :=
  firstE2.2 ⟨by rw [unlZ (by decide)]; simp only [Bool.and_eq_true, wthn_iff]; omega, by rw [unlZ (by decide), decide_eq_true_eq]; exact h2⟩
theorem chCl_of {c : List (Int × Int)} (hl : c.length ≤ 20) (h : ∀ k, k < c.length → 0 ≤ (fg c k).1 ∧ (fg c k).2 ≤ 50 ∧ (fg c k).1 ≤ (fg c k).2) : (chCl c).2 = 0 := by
  unfold chCl
  rw [if_neg (by omega)]
  exact eachR_nil _ _ (fun j _ hj => rgE_of (h j (by omega)).1 (h j (by omega)).2.1 (h j (by omega)).2.2)
theorem rngL_in {r : Int × Int} {n : Int} (h1 : r.1 ≤ n) (h2 : n ≤ r.2) : n ∈ rngL r := by
  unfold rngL
  exact List.mem_map.2 ⟨(n - r.1).toNat, List.mem_range.2 (by omega), by omega⟩

end Go.Proofs.YtjfedpblkejmkaaGreat

/-
  The reference and the law: RangeErr, CheckClass, ClassErr, openErr.
-/
namespace Go.Proofs.YtjfedpblkejmkaaGreat
open Go.RowKit
attribute [local go_sem] Oper.semAt_some

theorem rgE_val (lo hi : Int) : rgE (lo, hi) = if wthn lo 0 50 = false then 2 else if wthn hi 0 50 = false then 2 else if hi < lo then 9 else 0 := by
  unfold rgE
  dsimp only
  by_cases h : hi < lo
  · rw [if_pos h, decide_eq_false (show ¬ lo ≤ hi by omega)]
    cases wthn lo 0 50 <;> cases wthn hi 0 50 <;> rfl
  · rw [if_neg h, decide_eq_true (show lo ≤ hi by omega)]
    cases wthn lo 0 50 <;> cases wthn hi 0 50 <;> rfl

set_option maxHeartbeats 800000 in
set_option maxRecDepth 100000 in
theorem rRangeErr_any (lo hi : Int) (w : World) :
    Calls Tryz.prog 53 #[.agg #[.int .i64 lo, .int .i64 hi]] w fun e w' => e = .returned (.int .i64 (rgE (lo, hi))) ∧ Below w.heap.size w w' := by
  have H1 := Lib.hid (fun W => rFlowErr_any lo W)
  have H2 := Lib.hid (fun W => rFlowErr_any hi W)
  have HV := Lib.hid (rgE_val lo hi)
  obtain ⟨r, hr⟩ : ∃ r, rgE (lo, hi) = r := ⟨_, rfl⟩
  rw [hr] at HV ⊢
  obtain ⟨b1, hb1⟩ : ∃ b, wthn lo 0 50 = b := ⟨_, rfl⟩
  obtain ⟨b2, hb2⟩ : ∃ b, wthn hi 0 50 = b := ⟨_, rfl⟩
  rw [hb1] at H1 HV
  rw [hb2] at H2 HV
  clear hr hb1 hb2
  cases b1
  · obtain rfl : r = 2 := HV.out
    clear HV
    go_enter Tryz.func53, Tryz.ntmps53
    go_wp2_with (go_at_call 33; refine (H1.out _).mono ?_; rintro e w' ⟨rfl, rfl⟩; rw [show unl false 2 = 2 from rfl])
    go_ret
    exact ⟨rfl, bAlloc (bSelf w) _⟩
  · cases b2
    · obtain rfl : r = 2 := HV.out
      clear HV
      go_enter Tryz.func53, Tryz.ntmps53
      go_wp2_with (go_at_call 33; first | (refine (H1.out _).mono ?_; rintro e w' ⟨rfl, rfl⟩; rw [show unl true 2 = 0 from rfl]) | (refine (H2.out _).mono ?_; rintro e w' ⟨rfl, rfl⟩; rw [show unl false 2 = 2 from rfl]))
      go_ret
      exact ⟨rfl, bAlloc (bSelf w) _⟩
    · by_cases h : hi < lo
      · obtain rfl : r = 9 := by rw [HV.out, if_neg (by decide), if_neg (by decide), if_pos h]
        clear HV
        go_enter Tryz.func53, Tryz.ntmps53
        go_wp2_with (go_at_call 33; first | (refine (H1.out _).mono ?_; rintro e w' ⟨rfl, rfl⟩; rw [show unl true 2 = 0 from rfl]) | (refine (H2.out _).mono ?_; rintro e w' ⟨rfl, rfl⟩; rw [show unl true 2 = 0 from rfl]))
        go_ret
        exact ⟨rfl, bAlloc (bSelf w) _⟩
      · obtain rfl : r = 0 := by rw [HV.out, if_neg (by decide), if_neg (by decide), if_neg h]
        clear HV
        go_enter Tryz.func53, Tryz.ntmps53
        go_wp2_with (go_at_call 33; first | (refine (H1.out _).mono ?_; rintro e w' ⟨rfl, rfl⟩; rw [show unl true 2 = 0 from rfl]) | (refine (H2.out _).mono ?_; rintro e w' ⟨rfl, rfl⟩; rw [show unl true 2 = 0 from rfl]))
        go_ret
        exact ⟨rfl, bAlloc (bSelf w) _⟩

end Go.Proofs.YtjfedpblkejmkaaGreat

/-
  CopyRanges.
-/
namespace Go.Proofs.YtjfedpblkejmkaaGreat
open Go.RowKit
attribute [local go_sem] Oper.semAt_some

theorem rtRg : RowTy Tryz.prog 65 25 2 16 (.agg #[.int .i64 0, .int .i64 0]) := by
  obtain ⟨i, h1, h2, h3, h4⟩ := info_parts (show (Tryz.prog.info? 25).map (fun i => (i.zero, i.size, i.bytes)) = some (some (.agg #[.int .i64 0, .int .i64 0]), 2, 16) by kernel_rfl)
  exact ⟨by kernel_rfl, ⟨i, h1, h2, h3, h4⟩, rfl, by omega, by omega⟩

end Go.Proofs.YtjfedpblkejmkaaGreat

