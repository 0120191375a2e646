/-
  Texts of this claim, in their build order: V4 V5 G3.
-/
import Derived.Test.YtmofgejoogikfaaTop19
import Derived.Test.YtmofgejoogikfaaTop12

/-
  slices.Grow and slices.Concat of fractions.
-/
namespace Go.Proofs.Ytmofgejoogikfaa
open Go.RowKit

def GrPost (w : World) (e : Ending) (w' : World) : Prop := ∃ v, e = .returned v ∧ w'.ownsRow w.heap.size 55 2 v 0 [] ∧ Below w.heap.size w w'

set_option maxHeartbeats 800000 in
set_option maxRecDepth 100000 in
theorem Grow_nil (n : Nat) (w : World) (hn : 0 < n) (hn2 : n ≤ 1000) :
    Calls Try.prog 112 #[.slice none 0 0, .int .i64 n] w fun e w' => GrPost w e w' := by
  have h16 : Try.t55.bytes = 16 := by kernel_rfl
  have hlt : ¬ 281474976710656 < (n : Int) * (Try.t55.bytes : Int) := by rw [h16]; omega
  have hlt2 : ¬ 281474976710656 < Builtin.nextslicecap n 0 * Try.t55.bytes := by
    have := growslice_fits (need := n) (old := 0) (bytes := 16) hn (by omega)
    rw [h16]; omega
  have hnn : ¬ ((n : Int) < 0) := by omega
  have hn0 : (0 : Int) < n := by omega
  clear h16
  go_enter Try.func112, Try.ntmps112
  go_wp2_with fail
  obtain ⟨C, hC⟩ : ∃ C, (Question.appendCap n 0 55).cut (w.tape w.drawn (Question.appendCap n 0 55)) = C := ⟨_, rfl⟩
  have hC1 : n ≤ C := by rw [← hC]; exact grownCap_ge w n 0 55
  have hC2 : C ≤ maxLen := by rw [← hC]; exact grownCap_le_maxLen w n 0 55 (by unfold maxLen; omega)
  rw [hC]
  go_ret
  refine ⟨_, rfl, ?_, ((Below.refl _ _).alloc (Nat.le_refl _) _).drew⟩
  exact World.ownsRow_made w _ C (Nat.le_refl _) hC2 (by rw [Array.size_append, size_zeroCells, size_zeroCells]; simp only [List.size_toArray, List.length_cons, List.length_nil]; omega)

theorem fcells_app (l m : List (Int × Int)) : fcells (l ++ m) = fcells l ++ fcells m := by unfold fcells; rw [List.flatMap_append]

set_option maxHeartbeats 1600000 in
set_option maxRecDepth 100000 in
theorem Concat_two (l1 l2 : List (Int × Int)) (B : Nat) (a1 a2 : Option Addr) (c1 c2 : Nat) (w : World) (hB : Blk w B #[.slice a1 l1.length c1, .slice a2 l2.length c2]) (h0 : 0 < l1.length) (h1 : l1.length ≤ 100) (h2 : l2.length ≤ 100)
    (hr1 : Reads w a1 (l1.length * 2) (fracs l1)) (hr2 : Reads w a2 (l2.length * 2) (fracs l2)) :
    Calls Try.prog 68 #[.slice (some ⟨B, 0, none⟩) 2 2] w fun e w' => FPost (l1 ++ l2) w e w' := by
  have K0 := Lib.hid hB
  have HR1 := Lib.hid hr1
  have HR2 := Lib.hid hr2
  have hcl1 := Lib.hid (fcells_len l1)
  have hcl2 := Lib.hid (fcells_len l2)
  have HFA := Lib.hid (fcells_app l1 l2)
  have HP : Hid (∀ e w', (∃ a' cap', e = .returned (.slice a' (l1.length + l2.length) cap') ∧ l1.length + l2.length ≤ cap' ∧ Reads w' a' ((l1.length + l2.length) * 2) (fracs (l1 ++ l2)) ∧ Below w.heap.size w w' ∧ ∀ p, a' = some p → w.heap.size ≤ p.block) → FPost (l1 ++ l2) w e w') := Lib.hid (fun e w' h => by
    unfold FPost
    rw [List.length_append]
    exact h)
  have HGET := Lib.hid (fun i (hi : i < (l1.length + l2.length) * 2) => fcells_get (l1 ++ l2) i (by rw [List.length_append]; exact hi))
  obtain ⟨n1, hn1⟩ : ∃ n, l1.length = n := ⟨_, rfl⟩
  obtain ⟨n2, hn2⟩ : ∃ n, l2.length = n := ⟨_, rfl⟩
  rw [hn1] at K0 h0 h1 HP hcl1 HGET
  rw [hn2] at K0 h2 HP hcl2 HGET
  have HN1 := Lib.hid hn1
  have HN2 := Lib.hid hn2
  have KB := K0
  clear hB hr1 hr2 hn1 hn2
  go_enter Try.func68, Try.ntmps68
  go_wp2_with fail
  go_loopw [3, 5, 11] (fun sv _ iv wr => ∃ (k s : Nat), iv = .int .i64 k ∧ sv = .int .i64 s ∧ Hid ((k = 0 ∧ s = 0) ∨ (k = 1 ∧ s = n1) ∨ (k = 2 ∧ s = n1 + n2)) ∧ Hid (w = wr)) (fun _ _ iv _ => 2 - (intOf iv).toNat)
  case atStart => exact ⟨0, 0, rfl, rfl, Lib.hid (.inl ⟨rfl, rfl⟩), Lib.hid rfl⟩
  case round =>
    obtain ⟨k, s, rfl, rfl, hks, hw⟩ := hrel
    have hw' := hw.out
    subst hw'
    obtain ⟨-, k0, -⟩ := K0.out
    rcases hks.out with ⟨rfl, rfl⟩ | ⟨rfl, rfl⟩ | ⟨rfl, rfl⟩
    · clear hks
      go_wp2_with fail
      go_roundw
      case rel => exact ⟨1, n1, rfl, rfl, Lib.hid (.inr (.inl ⟨rfl, rfl⟩)), Lib.hid (by trivial)⟩
      case measure => simp [intOf]
    · clear hks
      have hnn : ¬ ((s : Int) + n2 < 0) := by omega
      go_wp2_with fail
      go_roundw
      case rel => exact ⟨2, s + n2, rfl, by go_num, Lib.hid (.inr (.inr ⟨rfl, rfl⟩)), Lib.hid (by trivial)⟩
      case measure => simp [intOf]
    · clear hks
      go_wp2_with fail
      have HGN := Lib.hid (Grow_nil (n1 + n2) w (by omega) (by omega))
      rw [Int.natCast_add] at HGN
      refine HGN.out.mono ?_
      rintro e w4 ⟨v4, rfl, hown, hb⟩
      have HO4 := Lib.hid hown
      have HB4 := Lib.hid hb
      replace K0 := Lib.hid (K0.out.to hb)
      clear hown hb k0 HGN
      go_wp2_with fail
      go_loopw [6, 8, 27] (fun v _ iv wr => ∃ k : Nat, iv = .int .i64 k ∧ Hid ((k = 0 ∧ wr.ownsRow w.heap.size 55 2 v 0 []) ∨ (k = 1 ∧ wr.ownsRow w.heap.size 55 2 v n1 (fcells l1)) ∨ (k = 2 ∧ wr.ownsRow w.heap.size 55 2 v (n1 + n2) (fcells l1 ++ fcells l2))) ∧ Hid (Below w.heap.size w wr)) (fun _ _ iv _ => 2 - (intOf iv).toNat)
      case atStart => exact ⟨0, rfl, Lib.hid (.inl ⟨rfl, HO4.out⟩), HB4⟩
      case round =>
        clear HO4 HB4 K0
        obtain ⟨k, rfl, hks, hbel⟩ := hrel
        have K0 := Lib.hid (KB.out.to hbel.out)
        have hsw : w.heap.size ≤ wr.heap.size := hbel.out.size
        obtain ⟨-, k0, -⟩ := K0.out
        rcases hks.out with ⟨rfl, hown⟩ | ⟨rfl, hown⟩ | ⟨rfl, hown⟩
        · have HOWN := Lib.hid hown
          have hlo := Lib.hid hown.lt
          clear hks hown
          obtain ⟨b, off, rfl, -, -⟩ := (HR1.out.to hbel.out).at (k := 0) (by have := HN1.out; omega)
          have HNW := Lib.hid (Reads.newsF (HR1.out.to hbel.out))
          go_wp2_with (at_builtin; (refine wpList_app w.heap.size rtFrac rfl (.tmp 31) (.tmp 32) rfl _ 0 [] rfl HOWN.out ⟨b, off, none⟩ n1 c1 (fcells l1) rfl hcl1.out HNW.out (onesF _) (by unfold maxLen; omega) (by omega) (by omega) ?_; intro v' w8 hown' hgrow _ _; have HO := Lib.hid hown'; have HG := Lib.hid hgrow; clear hown' hgrow))
          have HB8 : Hid (Below w.heap.size w w8) := Lib.hid (hbel.out.grown HG.out hbel.out.size (fun k e => (hlo.out k e).1))
          go_roundw
          case rel =>
            have h := HO.out
            rw [Nat.zero_add, List.nil_append] at h
            exact ⟨1, rfl, Lib.hid (.inr (.inl ⟨rfl, h⟩)), HB8⟩
          case measure => simp [intOf]
        · have HOWN := Lib.hid hown
          have hlo := Lib.hid hown.lt
          clear hks hown
          cases a2 with
          | none =>
            have hz : n2 = 0 := by
              rcases HR2.out with h | ⟨b, off, e, -⟩
              · have := HN2.out; omega
              · cases e
            have HL0 : Hid (l2 = []) := Lib.hid (List.length_eq_zero_iff.1 (by rw [HN2.out, hz]))
            obtain ⟨g, cap, cur, hv, -, -, hcap, -⟩ : ∃ g cap cur, _ = Value.slice (some ⟨g, 0, none⟩) n1 cap ∧ w.heap.size ≤ g ∧ wr.heap[g]? = some (.cells cur 55 (0, 0)) ∧ n1 ≤ cap ∧ True := by
              rcases HOWN.out.2 with ⟨-, h⟩ | ⟨g, cap, cur, h, h', h'', h3, -⟩
              · omega
              · exact ⟨g, cap, cur, h, h', h'', h3, trivial⟩
            subst hv
            subst hz
            go_wp2_with fail
            go_roundw
            case rel => exact ⟨2, rfl, Lib.hid (.inr (.inr ⟨rfl, by rw [HL0.out]; simpa [fcells] using HOWN.out⟩)), hbel⟩
            case measure => simp [intOf]
          | some ad =>
            have HNW := Lib.hid (Reads.newsF (HR2.out.to hbel.out))
            go_wp2_with (at_builtin; (refine wpList_app w.heap.size rtFrac rfl (.tmp 31) (.tmp 32) rfl _ n1 (fcells l1) rfl HOWN.out ad n2 c2 (fcells l2) rfl hcl2.out HNW.out (onesF _) (by unfold maxLen; omega) (by omega) (by omega) ?_; intro v' w8 hown' hgrow _ _; have HO := Lib.hid hown'; have HG := Lib.hid hgrow; clear hown' hgrow))
            have HB8 : Hid (Below w.heap.size w w8) := Lib.hid (hbel.out.grown HG.out hbel.out.size (fun k e => (hlo.out k e).1))
            go_roundw
            case rel => exact ⟨2, rfl, Lib.hid (.inr (.inr ⟨rfl, HO.out⟩)), HB8⟩
            case measure => simp [intOf]
        · have HOWN := Lib.hid hown
          clear hks hown
          go_wp2_with fail
          go_ret
          have hrow := HOWN.out
          rw [← HFA.out] at hrow
          obtain ⟨a', cap', rfl, hcp, hrd, hfr⟩ := Reads.of_row (f := fracs (l1 ++ l2)) hrow HGET.out
          exact HP.out _ _ ⟨a', cap', rfl, hcp, hrd, hbel.out, hfr⟩

end Go.Proofs.Ytmofgejoogikfaa

/-
  What CheckHalves asks of one fraction.
-/
namespace Go.Proofs.Ytmofgejoogikfaa
open Go.RowKit

/-- The error of a fraction's form and size. -/
def frE (p : Int × Int) : Int := firstE [unl (lowB p.1 p.2) 3, unl ((decide (-1000000000 ≤ p.1) && decide (p.1 ≤ 1000000000)) && decide (p.2 ≤ 1000000000)) 2]
/-- A fraction of ints. -/
structure I64 (p : Int × Int) : Prop where
  n0 : -9223372036854775808 ≤ p.1
  n1 : p.1 ≤ 9223372036854775807
  d0 : -9223372036854775808 ≤ p.2
  d1 : p.2 ≤ 9223372036854775807

set_option maxHeartbeats 1600000 in
set_option maxRecDepth 100000 in
theorem CheckHalves1_any (p : Int × Int) (k : Nat) (w : World) (hp : I64 p) :
    Calls Try.prog 70 #[.int .i64 k, .agg #[.int .i64 p.1, .int .i64 p.2]] w fun e w' => e = .returned (.int .i64 (frE p)) ∧ Below w.heap.size w w' := by
  obtain ⟨n, d⟩ := p
  obtain ⟨n0, n1, d0, d1⟩ := hp
  dsimp only at n0 n1 d0 d1 ⊢
  have HDV := Lib.hid (fun W (h : 0 < d) => divisor_pos n d W n0 n1 h d1)
  unfold frE lowB
  dsimp only
  obtain ⟨g, hg⟩ : ∃ g : Int, ((Int.gcd n d : Nat) : Int) = g := ⟨_, rfl⟩
  rw [hg] at HDV ⊢
  clear hg
  by_cases hd : 0 < d
  · have hdd : decide (0 < d) = true := decide_eq_true hd
    rw [hdd, Bool.true_and]
    cases hsz : (decide (-1000000000 ≤ n) && decide (n ≤ 1000000000))
    all_goals
      have HSZ := Lib.hid hsz
      clear hsz
      go_enter Try.func70, Try.ntmps70
      go_wp2_with fail
      obtain ⟨W, hW⟩ : ∃ W, w.alloc (.cells #[.int .i64 n, .int .i64 d] 55) = W := ⟨_, rfl⟩
      rw [hW]
      have K0 : Hid (Blk W w.heap.size #[.int .i64 n, .int .i64 d]) := by subst hW; exact Lib.hid (Blk.new _ _ _)
      have HB : Hid (Below w.heap.size w W) := by subst hW; exact Lib.hid (bAlloc (bSelf w) _)
      clear hW
      refine wp_region_quiet_tail 21 (fun w' => Below (World.heap W).size (W) w') (by kernel_rfl) (by kernel_rfl) (Below.refl _ _).drew ?_
      simp only [List.take_succ_cons, List.take_zero, List.drop_succ_cons, List.drop_zero]
      refine WQ.out ?_
      repeat (first | (refine WQ_no (by rfl) ?_; (simp only [Act.put, List.setIfInBounds_toArray, List.set_cons_zero, List.set_cons_succ])) | (refine WQ_yes (by rfl) ?_; apply Exists.intro; refine ⟨fun w1 hb1 => ?_, ?_⟩; (focus (((obtain ⟨-, k0, -⟩ := K0.out.to hb1); have hb1 := Lib.hid hb1; go_simp); (try (go_bits; try go_simp)); (try (rw [if_pos (by omega)]; try go_simp)); (first | done | ((first | (go_at_call 71; refine (HDV.out _ hd).mono ?_; rintro e w' ⟨rfl, hb2⟩; exact ⟨rfl, bThen hb1.out hb2⟩) | (go_at_call 72; refine (sized_any _ _ _ (by omega) (by omega)).mono ?_; rintro e w' ⟨rfl, rfl⟩; rw [HSZ.out]; exact ⟨rfl, hb1.out⟩) | (go_at_call 67; refine (unless_any _ _ _).mono ?_; rintro e w' ⟨rfl, rfl⟩; exact ⟨rfl, hb1.out⟩))) | (with_reducible rfl) | exact rfl))); (simp only [Act.put, List.setIfInBounds_toArray, List.set_cons_zero, List.set_cons_succ])))
      refine WQ_nil ?_
      intro w1 hb1
      replace HB := Lib.hid (bThen HB.out hb1)
      clear hb1
      go_wp2_with fail
      refine (first2_new _ _ _ _ (by simp)).mono ?_
      rintro e w' ⟨rfl, rfl⟩
      go_wp2_with fail
      go_ret
      exact ⟨rfl, bAlloc HB.out _⟩
  · have hdd : decide (0 < d) = false := decide_eq_false hd
    rw [hdd, Bool.false_and]
    cases hsz : (decide (-1000000000 ≤ n) && decide (n ≤ 1000000000))
    all_goals
      have HSZ := Lib.hid hsz
      clear hsz
      go_enter Try.func70, Try.ntmps70
      go_wp2_with fail
      obtain ⟨W, hW⟩ : ∃ W, w.alloc (.cells #[.int .i64 n, .int .i64 d] 55) = W := ⟨_, rfl⟩
      rw [hW]
      have K0 : Hid (Blk W w.heap.size #[.int .i64 n, .int .i64 d]) := by subst hW; exact Lib.hid (Blk.new _ _ _)
      have HB : Hid (Below w.heap.size w W) := by subst hW; exact Lib.hid (bAlloc (bSelf w) _)
      clear hW
      refine wp_region_quiet_tail 21 (fun w' => Below (World.heap W).size (W) w') (by kernel_rfl) (by kernel_rfl) (Below.refl _ _).drew ?_
      simp only [List.take_succ_cons, List.take_zero, List.drop_succ_cons, List.drop_zero]
      refine WQ.out ?_
      repeat (first | (refine WQ_no (by rfl) ?_; (simp only [Act.put, List.setIfInBounds_toArray, List.set_cons_zero, List.set_cons_succ])) | (refine WQ_yes (by rfl) ?_; apply Exists.intro; refine ⟨fun w1 hb1 => ?_, ?_⟩; (focus (((obtain ⟨-, k0, -⟩ := K0.out.to hb1); have hb1 := Lib.hid hb1; go_simp); (try (go_bits; try go_simp)); (try (rw [if_pos (by omega)]; try go_simp)); (first | done | ((first | (go_at_call 72; refine (sized_any _ _ _ (by omega) (by omega)).mono ?_; rintro e w' ⟨rfl, rfl⟩; rw [HSZ.out]; exact ⟨rfl, hb1.out⟩) | (go_at_call 67; refine (unless_any _ _ _).mono ?_; rintro e w' ⟨rfl, rfl⟩; exact ⟨rfl, hb1.out⟩))) | (with_reducible rfl) | exact rfl))); (simp only [Act.put, List.setIfInBounds_toArray, List.set_cons_zero, List.set_cons_succ])))
      refine WQ_nil ?_
      intro w1 hb1
      replace HB := Lib.hid (bThen HB.out hb1)
      clear hb1
      go_wp2_with fail
      refine (first2_new _ _ _ _ (by simp)).mono ?_
      rintro e w' ⟨rfl, rfl⟩
      go_wp2_with fail
      go_ret
      exact ⟨rfl, bAlloc HB.out _⟩

end Go.Proofs.Ytmofgejoogikfaa

/-
  The arguments of a statement, opened: a chain; halves of a chain.
-/
namespace Go.Proofs.Ytmofgejoogikfaa
open Go.ChangeShapes Go.WideShapes Go.ChangeAt Go.RowKit

set_option maxRecDepth 100000 in
theorem open_ints' {H : Type} {enc : TypeId × Value → H} {W : World} {fuel : Nat} {cs : List Value} {x : DataW H × List MemPlace} (hf : DataW.trod enc Try.prog W 0 (fun _ => true) true fuel 22 cs = some x) :
    ∃ (zs : List Int) (a : Option Addr) (cap : Nat), cs = [.slice a zs.length cap] ∧ zs.length ≤ maxLen ∧ zs.length ≤ cap ∧ Reads W a zs.length (ints zs) := by
  rcases open_ints Try.underlying22 Try.underlying3 (by kernel_rfl) hf with ⟨hcs, _⟩ | ⟨x, l, c, zs, hcs, _, hl, hm, hz, _, hcell, hwz⟩
  · exact ⟨[], none, 0, hcs, Nat.zero_le _, Nat.zero_le _, .inl rfl⟩
  · have hzl : zs.length = c := by simpa using hz
    have htl : (zs.take l).length = l := by rw [List.length_take]; omega
    refine ⟨zs.take l, some x, c, by rw [htl]; exact hcs, by rw [htl]; omega, by rw [htl]; exact hl, ?_⟩
    rw [htl]
    by_cases h0 : l = 0
    · exact .inl h0
    · have hc := hcell 0 (by omega)
      obtain ⟨b, off, spot⟩ := x
      have hspot : spot = none := by simpa [Addr.add] using World.cell?_spot hc
      subst hspot
      have hadd : ∀ i, (⟨b, off, none⟩ : Addr).add i = ⟨b, off + i, none⟩ := by intro i; unfold Addr.add; split <;> simp_all
      refine .inr ⟨b, off, rfl, ?_, fun i hi => ?_⟩
      · have := cell_lt hc; rwa [hadd] at this
      · rw [← hadd i, hcell i (by omega)]
        unfold ints gi
        rw [List.getD_eq_getElem?_getD, List.getD_eq_getElem?_getD, List.getElem?_take, if_pos hi]

set_option maxRecDepth 100000 in
theorem open_chain {H : Type} {enc : TypeId × Value → H} {W : World} {v : Value} {d : DataW H} {p : List MemPlace} {base : Nat} (hv : Value.okWide Try.prog W .any base 24 v) (h : DataW.Trod enc Try.prog W 0 (fun _ => true) true 24 v d p) :
    ∃ (ks fs : List Int) (a1 a2 : Option Addr) (c1 c2 : Nat), v = .agg (chV a1 ks.length c1 a2 fs.length c2) ∧ ks.length ≤ maxLen ∧ fs.length ≤ maxLen ∧ ks.length ≤ c1 ∧ fs.length ≤ c2 ∧ Reads W a1 ks.length (ints ks) ∧ Reads W a2 fs.length (ints fs) := by
  obtain ⟨fs, hu⟩ : ∃ fs, Try.prog.underlying 24 = some (.struct fs) := ⟨_, Try.underlying24⟩
  simp only [Value.okWide, hu] at hv
  obtain ⟨cs, rfl, hs, -⟩ := hv
  obtain ⟨a, b, rfl⟩ := arr2 (hs.trans (show Try.prog.cellsOf 24 = 2 by kernel_rfl))
  obtain ⟨fuel, hf⟩ := h
  obtain ⟨y0, y1, m, _, -, h0, h1⟩ := trod_struct2 Try.underlying24 hf
  have hc1 : Try.prog.cellsOf 22 = 1 := by kernel_rfl
  simp only [hc1] at h0 h1
  obtain ⟨zs, a1, c1, e0, l0, l1, r0⟩ := open_ints' h0
  obtain ⟨ys, a2, c2, e1, l2, l3, r1⟩ := open_ints' h1
  simp [Value.cells] at e0 e1
  exact ⟨zs, ys, a1, a2, c1, c2, by rw [e0, e1], l0, l2, l1, l3, r0, r1⟩
end Go.Proofs.Ytmofgejoogikfaa

