/-
  Texts of this claim, in their build order: OL1 OM1.
-/
import Derived.Test.YtjfedpblkejmkaaGreatBot23
import Derived.Test.YtjfedpblkejmkaaGreatBot24
import Derived.Test.YtjfedpblkejmkaaGreatBot22
import Derived.Test.YtjfedpblkejmkaaGreatBot3
import Derived.Test.YtjfedpblkejmkaaGreatBot4
import Derived.Test.YtjfedpblkejmkaaGreatBot1
import Derived.Maps.OwnSet
import Derived.Maps.OwnIn
import Derived.Maps.RangeWalk
import Derived.DeepKeys4
import Derived.Test.YtjfedpblkejmkaaGreatBot0

namespace Go.Proofs.YtjfedpblkejmkaaGreat
section
set_option maxRecDepth 100000
set_option maxHeartbeats 400000
open Go.RowKit

theorem sg_ext {l m : List OSt} (h : l.length = m.length) (hg : ∀ i, i < l.length → sg l i = sg m i) : l = m := by
  apply List.ext_getElem h
  intro i h1 h2
  have := hg i h1
  unfold sg at this
  simpa [h1, h2] using this

theorem SameStates_any (zs ys : List OSt) (a b : Option Addr) (ca cb : Nat) (w : World) (hlz : zs.length ≤ maxLen) (hra : Reads w a (zs.length * 2) (osts zs)) (hrb : Reads w b (ys.length * 2) (osts ys)) :
    Calls Tryz.prog 31 #[.slice a zs.length ca, .slice b ys.length cb] w fun e w' => e = .returned (.bool (decide (zs = ys))) ∧ Below w.heap.size w w' := by
  unfold maxLen at hlz
  have HA := zH hra
  have HB := zH hrb
  clear hra hrb
  by_cases hl : zs.length = ys.length
  · have HL := zH hl
    have hl1 : zs.length ≤ ys.length := by omega
    have hl2 : ys.length ≤ zs.length := by omega
    clear hl
    go_enter Tryz.func31, Tryz.ntmps31
    go_wp2_with fail
    go_loopw [5] (fun i wr => ∃ k : Nat, k ≤ zs.length ∧ i = .int .i64 k ∧ Hid (∀ j, j < k → sg zs j = sg ys j) ∧ Hid (Below w.heap.size w wr)) (fun i _ => zs.length - (intOf i).toNat)
    case atStart => exact ⟨0, Nat.zero_le _, rfl, zH (by intro j h; omega), zH (bSelf w)⟩
    case round =>
      obtain ⟨k, hk, rfl, hp, hB⟩ := hrel
      by_cases hlt : k < zs.length
      · have hlt2 : k < ys.length := by omega
        obtain ⟨ba, oa, rfl, hba, hca⟩ := (HA.out.to hB.out).at (k := k * 2) (by omega)
        obtain ⟨bb, ob, rfl, hbb, hcb⟩ := (HB.out.to hB.out).at (k := k * 2) (by omega)
        obtain ⟨n1, d1, hz⟩ : ∃ n1 d1, sg zs k = (n1, d1) := ⟨_, _, rfl⟩
        obtain ⟨n2, d2, hy⟩ : ∃ n2 d2, sg ys k = (n2, d2) := ⟨_, _, rfl⟩
        have h1 : Hid (wr.cell? ⟨ba, oa + k * 2, none⟩ = some (.int .i64 n1)) := zH (by rw [hca _ (by omega), osts0, hz])
        have h2 : Hid (wr.cell? ⟨ba, oa + k * 2 + 1, none⟩ = some (.bool d1)) := zH (by rw [Nat.add_assoc, hca _ (by omega), osts1, hz])
        have h3 : Hid (wr.cell? ⟨bb, ob + k * 2, none⟩ = some (.int .i64 n2)) := zH (by rw [hcb _ (by omega), osts0, hy])
        have h4 : Hid (wr.cell? ⟨bb, ob + k * 2 + 1, none⟩ = some (.bool d2)) := zH (by rw [Nat.add_assoc, hcb _ (by omega), osts1, hy])
        clear hca hcb
        have HZ := zH hz
        have HY := zH hy
        clear hz hy
        by_cases he : (n1, d1) = (n2, d2)
        · cases he
          go_wp2_with fail
          refine wp_region_quiet_all (fun w' => Below (World.heap wr).size (wr) w') (by kernel_rfl) (by kernel_rfl) (Below.refl _ _).drew ?_
          refine WQ.out ?_
          repeat (first | (refine WQ_no (by rfl) ?_; (simp only [Act.put, zzT, zzO, zzS])) | (refine WQ_yes (by rfl) ?_; apply Exists.intro; refine ⟨fun w1 hb1 => ?_, ?_⟩; (focus (((have k1 := (hb1.cell (p := ⟨ba, oa + k * 2, none⟩) hba).trans h1.out; have k2 := (hb1.cell (p := ⟨ba, oa + k * 2 + 1, none⟩) hba).trans h2.out; have k3 := (hb1.cell (p := ⟨bb, ob + k * 2, none⟩) hbb).trans h3.out; have k4 := (hb1.cell (p := ⟨bb, ob + k * 2 + 1, none⟩) hbb).trans h4.out); have hb1 := zH hb1; go_simp); (try (go_bits; try go_simp)); (try (rw [if_pos (by omega)]; try go_simp)); (first | done | (with_reducible rfl) | exact rfl))); (simp only [Act.put, zzT, zzO, zzS])))
          refine WQ_nil ?_
          intro w1 hb1
          go_wp2_with fail
          go_roundw
          case rel =>
            refine ⟨k + 1, by omega, by go_num, zH (fun j hj => ?_), zH (bThen hB.out hb1)⟩
            by_cases h : j = k
            · subst h; rw [HZ.out, HY.out]
            · exact hp.out j (by omega)
          case measure => simp [intOf]; omega
        · have HE := zH he
          have hcs : (¬ n1 = n2) ∨ (n1 = n2 ∧ ¬ d1 = d2) := by
            by_cases h : n1 = n2
            · exact .inr ⟨h, fun h2 => he (by rw [h, h2])⟩
            · exact .inl h
          clear he
          rcases hcs with hn | ⟨rfl, hn⟩
          all_goals
            go_wp2_with fail
            refine wp_region_quiet_all (fun w' => Below (World.heap wr).size (wr) w') (by kernel_rfl) (by kernel_rfl) (Below.refl _ _).drew ?_
            refine WQ.out ?_
            repeat (first | (refine WQ_no (by rfl) ?_; (simp only [Act.put, zzT, zzO, zzS])) | (refine WQ_yes (by rfl) ?_; apply Exists.intro; refine ⟨fun w1 hb1 => ?_, ?_⟩; (focus (((have k1 := (hb1.cell (p := ⟨ba, oa + k * 2, none⟩) hba).trans h1.out; have k2 := (hb1.cell (p := ⟨ba, oa + k * 2 + 1, none⟩) hba).trans h2.out; have k3 := (hb1.cell (p := ⟨bb, ob + k * 2, none⟩) hbb).trans h3.out; have k4 := (hb1.cell (p := ⟨bb, ob + k * 2 + 1, none⟩) hbb).trans h4.out); have hb1 := zH hb1; go_simp); (try (go_bits; try go_simp)); (try (rw [if_pos (by omega)]; try go_simp)); (first | done | (with_reducible rfl) | exact rfl))); (simp only [Act.put, zzT, zzO, zzS])))
            refine WQ_nil ?_
            intro w1 hb1
            go_wp2_with fail
            go_ret
            exact ⟨ret_bool (by have : ¬ zs = ys := fun h => HE.out (by rw [← HZ.out, ← HY.out, h]); simp [this]), bThen hB.out hb1⟩
      · have : k = zs.length := by omega
        subst this
        go_wp2_with fail
        go_ret
        exact ⟨ret_bool (by have : zs = ys := sg_ext HL.out hp.out; simp [this]), hB.out⟩
  · have HL := zH hl
    have h1 : ((zs.length : Int) != ys.length) = true := by simp; omega
    clear hl
    go_enter Tryz.func31, Tryz.ntmps31
    go_wp2_with fail
    go_ret
    exact ⟨ret_bool (by have : ¬ zs = ys := fun h => HL.out (by rw [h]); simp [this]), bSelf w⟩

theorem oWhole_any (n : Int) (w : World) : Calls Tryz.prog 22 #[.int .i64 n] w fun e w' => e = .returned (.agg #[.int .i64 n, .int .i64 1]) ∧ Below w.heap.size w w' := by
  go_enter Tryz.func22, Tryz.ntmps22
  go_upto_region 1 with (fail)
  obtain ⟨w1, hw1⟩ : ∃ w1, w.alloc (.cells #[.int .i64 0, .int .i64 0] 28) = w1 := ⟨_, rfl⟩
  rw [hw1]
  have K0 : Hid (Blk w1 w.heap.size #[.int .i64 0, .int .i64 0]) := by subst hw1; exact zH (Blk.new _ _ _)
  have HB : Hid (Below w.heap.size w w1) := by subst hw1; exact zH (bAlloc (bSelf w) _)
  clear hw1
  obtain ⟨-, k0, f0⟩ := K0.out
  go_wp2_with fail
  have F := (K0.out.set 0 (.int .i64 n)).set 1 (.int .i64 1)
  have F0 := F.2.1 0
  have F1 := F.2.1 1
  clear F k0 f0
  refine bodyPost_ret (v := .agg #[.int .i64 n, .int .i64 1]) ?_ rfl ⟨rfl, ?_⟩
  · simp [results, Tryz.results22, go_sem, F0, F1]
  · exact (HB.out.setCell (p := ⟨w.heap.size, 0, none⟩) (Nat.le_refl _) _).setCell (p := ⟨w.heap.size, 1, none⟩) (Nat.le_refl _) _

theorem Plant_any (w : World) : Calls Tryz.prog 87 #[] w fun e w' => ∃ a, e = .returned (.agg (plC exP a 3)) ∧ Reads w' a (3 * 2) (fracs exP.pts) ∧ Below w.heap.size w w' := by
  go_enter Tryz.func87, Tryz.ntmps87
  go_wp2_with fail
  obtain ⟨v1, hv1⟩ : ∃ v : Value, v = .slice (some ⟨w.heap.size + 1, 0, none⟩) 3 3 := ⟨_, rfl⟩
  rw [← hv1]
  have F := (Blk.new w #[v1, .int .i64 4, .int .i64 150, .int .i64 190] 44).alloc (.cells #[.int .i64 0, .int .i64 100, .int .i64 10, .int .i64 150, .int .i64 30, .int .i64 200] 188)
  have F0 := F.2.1 0
  have F1 := F.2.1 1
  have F2 := F.2.1 2
  have F3 := F.2.1 3
  clear F
  refine bodyPost_ret (v := .agg #[v1, .int .i64 4, .int .i64 150, .int .i64 190]) ?_ rfl ⟨_, by rw [hv1]; rfl, Reads.fresh _ _ _ _ _ 6 (by simp) (fun i hi => ?_), bAlloc (bAlloc (bSelf w) _) _⟩
  · simp [results, Tryz.results87, go_sem, F0, F1, F2, F3]
  · match i, hi with
    | 0, _ => rfl
    | 1, _ => rfl
    | 2, _ => rfl
    | 3, _ => rfl
    | 4, _ => rfl
    | 5, _ => rfl
    | n + 6, h => exact absurd h (by omega)
theorem Small_any (w : World) : Calls Tryz.prog 90 #[] w fun e w' => ∃ a, e = .returned (.agg (plC exS a 2)) ∧ Reads w' a (2 * 2) (fracs exS.pts) ∧ Below w.heap.size w w' := by
  go_enter Tryz.func90, Tryz.ntmps90
  go_wp2_with fail
  obtain ⟨v1, hv1⟩ : ∃ v : Value, v = .slice (some ⟨w.heap.size + 1, 0, none⟩) 2 2 := ⟨_, rfl⟩
  rw [← hv1]
  have F := (Blk.new w #[v1, .int .i64 2, .int .i64 30, .int .i64 50] 44).alloc (.cells #[.int .i64 0, .int .i64 10, .int .i64 4, .int .i64 50] 188)
  have F0 := F.2.1 0
  have F1 := F.2.1 1
  have F2 := F.2.1 2
  have F3 := F.2.1 3
  clear F
  refine bodyPost_ret (v := .agg #[v1, .int .i64 2, .int .i64 30, .int .i64 50]) ?_ rfl ⟨_, by rw [hv1]; rfl, Reads.fresh _ _ _ _ _ 4 (by simp) (fun i hi => ?_), bAlloc (bAlloc (bSelf w) _) _⟩
  · simp [results, Tryz.results90, go_sem, F0, F1, F2, F3]
  · match i, hi with
    | 0, _ => rfl
    | 1, _ => rfl
    | 2, _ => rfl
    | 3, _ => rfl
    | n + 4, h => exact absurd h (by omega)
theorem Full_any (w : World) : Calls Tryz.prog 88 #[] w fun e w' => e = .returned (.agg #[.int .i64 30, .bool false]) ∧ Below w.heap.size w w' := by
  go_enter Tryz.func88, Tryz.ntmps88
  go_wp2_with fail
  refine bodyPost_ret (v := .agg #[.int .i64 30, .bool false]) ?_ rfl ⟨rfl, bAlloc (bSelf w) _⟩
  simp [results, Tryz.results88, go_sem]
theorem Class_any (w : World) : Calls Tryz.prog 89 #[] w fun e w' => ∃ a, e = .returned (.slice a 2 2) ∧ Reads w' a (2 * 2) (fracs exC) ∧ Below w.heap.size w w' := by
  go_enter Tryz.func89, Tryz.ntmps89
  go_wp2_with fail
  go_ret
  refine ⟨_, rfl, Reads.fresh _ _ _ _ _ 4 (by simp) (fun i hi => ?_), bAlloc (bSelf w) _⟩
  match i, hi with
  | 0, _ => rfl
  | 1, _ => rfl
  | 2, _ => rfl
  | 3, _ => rfl
  | n + 4, h => exact absurd h (by omega)
theorem Valve_any (w : World) : Calls Tryz.prog 91 #[] w fun e w' => ∃ a, e = .returned (.slice a 3 3) ∧ Reads w' a (3 * 3) (flws exV) ∧ Below w.heap.size w w' := by
  go_enter Tryz.func91, Tryz.ntmps91
  go_wp2_with fail
  go_ret
  refine ⟨_, rfl, Reads.fresh _ _ _ _ _ 9 (by simp) (fun i hi => ?_), bAlloc (bSelf w) _⟩
  match i, hi with
  | 0, _ => rfl
  | 1, _ => rfl
  | 2, _ => rfl
  | 3, _ => rfl
  | 4, _ => rfl
  | 5, _ => rfl
  | 6, _ => rfl
  | 7, _ => rfl
  | 8, _ => rfl
  | n + 9, h => exact absurd h (by omega)
end
section
open Go.RowKit
open Go.Maps (Keyed)

abbrev stT : TypeId := 46
abbrev mpT : TypeId := 190
abbrev boT : TypeId := 4
theorem laidOutS : laidOutB Tryz.prog = true := by kernel_rfl
theorem arr2S {cs : Array Value} (h : cs.size = 2) : ∃ a b, cs = #[a, b] := by
  obtain ⟨l⟩ := cs
  match l, h with
  | [a, b], _ => exact ⟨a, b, rfl⟩
theorem ktS : Tryz.prog.keyType stT = true := by kernel_rfl
theorem lawS : Keyed Tryz.prog stT := Keyed.of_law (deep_law_laid laidOutS (m := 2) (by omega) (of_decide_eq_true (by kernel_rfl)) (by kernel_rfl) (by kernel_rfl))
theorem undM : Tryz.prog.underlying mpT = some (.map stT boT) := by kernel_rfl
theorem undB : Tryz.prog.underlying boT = some .bool := by kernel_rfl
theorem zeroB (w : World) : (zeroValue boT).run Tryz.prog w = .ok (.bool false) w := by kernel_rfl
theorem clsS : Tryz.prog.cellsOf stT = 2 := by kernel_rfl
theorem clsI : Tryz.prog.cellsOf 3 = 1 := by kernel_rfl
theorem clsB : Tryz.prog.cellsOf boT = 1 := by kernel_rfl

def StW (s : OSt) : Prop := -9223372036854775808 ≤ s.1 ∧ s.1 ≤ 9223372036854775807
theorem StW.wf {s : OSt} (h : StW s) : (Lit.int .i64 s.1).wf = true := WalkArith.wf_i64 (by have := h.1; have := h.2; omega)
abbrev stV (s : OSt) : Value := .agg #[.int .i64 s.1, .bool s.2]
def klS (s : OSt) : Lit := .string (keyBytes [.int .i64 s.1, .bool s.2])

theorem keyLits_mk (d : Nat) {s : OSt} (h : (Lit.int .i64 s.1).wf = true) : Tryz.prog.keyLits (d + 2) stT [.int .i64 s.1, .bool s.2] = some [.int .i64 s.1, .bool s.2] := by
  have e1 := Tryz.underlying3
  have e2 := Tryz.underlying4
  simp [Program.keyLits, Tryz.underlying46, clsS, clsI, clsB, h, e1, e2]
theorem keyLits_inv {d : Nat} {v1 v2 : Value} {ls : List Lit} (h : Tryz.prog.keyLits (d + 2) stT [v1, v2] = some ls) : ∃ s : OSt, v1 = .int .i64 s.1 ∧ v2 = .bool s.2 ∧ ls = [.int .i64 s.1, .bool s.2] ∧ (Lit.int .i64 s.1).wf = true := by
  have e1 := Tryz.underlying3
  have e2 := Tryz.underlying4
  simp [Program.keyLits, Tryz.underlying46, clsS, clsI, clsB, e1, e2] at h
  cases v1 <;> simp at h
  rename_i q n
  by_cases hq : q = .i64 ∧ (Lit.int .i64 n).wf = true
  · rw [if_pos hq] at h
    obtain ⟨rfl, hw⟩ := hq
    cases v2 <;> simp at h
    rename_i b
    exact ⟨(n, b), rfl, rfl, h.symm, hw⟩
  · rw [if_neg hq] at h
    simp at h
theorem size_pos : ∃ d, Tryz.prog.types.size + 1 = d + 2 := ⟨Tryz.prog.types.size - 1, by have : 1 ≤ Tryz.prog.types.size := of_decide_eq_true (by kernel_rfl); omega⟩
theorem keyS {s : OSt} (h : StW s) : keyOf Tryz.prog stT (stV s) = some (klS s) := by
  obtain ⟨d, hd⟩ := size_pos
  unfold keyOf klS stV
  simp only [Tryz.underlying46]
  rw [hd]
  simp [Value.formed, Tryz.underlying46, clsS, Value.cells, keyLits_mk d h.wf, ktS]
theorem keyS_inv {v : Value} {kl : Lit} (h : keyOf Tryz.prog stT v = some kl) : ∃ s : OSt, v = stV s ∧ kl = klS s ∧ (Lit.int .i64 s.1).wf = true := by
  obtain ⟨d, hd⟩ := size_pos
  unfold keyOf at h
  simp only [Tryz.underlying46] at h
  rw [hd] at h
  split at h
  · rename_i hf
    cases v <;> simp [Value.formed, Tryz.underlying46, clsS] at hf
    rename_i cs
    obtain ⟨a, b, rfl⟩ := arr2S hf.2
    simp [Value.cells] at h
    obtain ⟨ls, h1, h2⟩ := h
    obtain ⟨s, rfl, rfl, rfl, hw⟩ := keyLits_inv h1
    exact ⟨s, rfl, h2.symm, hw⟩
  · cases h

/-- A set of states. -/
def SetW (W : World) (b n : Nat) (S : OSt → Bool) : Prop :=
  ∃ D : DataW Unit, W.ownsMap Tryz.prog stT (plainElem Tryz.prog boT) b n D ∧ ∀ s, StW s → D.atKey (klS s) (.lit (.bool false)) = .lit (.bool (S s)) ∧ Maps.has D (klS s) = S s

theorem klS_ne {s t : OSt} (hs : StW s) (ht : StW t) (h : s ≠ t) : klS s ≠ klS t := by
  intro e
  have := lawS.inj (keyS hs) (e ▸ keyS ht)
  unfold stV at this
  injection this with this
  injection this with this
  injection this with h1 h2
  injection h2 with h2 _
  injection h1 with _ h1
  injection h2 with h2
  exact h (Prod.ext h1 h2)
theorem plainElem_bool_inv {v : Value} {z : DataW Unit × List MemPlace} (h : plainElem Tryz.prog boT v = some z) : ∃ x, v = .bool x ∧ z = (.lit (.bool x), []) := by
  unfold plainElem at h
  rw [undB] at h
  cases v <;> simp at h
  subst h
  exact ⟨_, rfl, rfl⟩

theorem SetW.new (w : World) : SetW (w.alloc (.map #[] 0)) w.heap.size 0 (fun _ => false) :=
  ⟨.map [], World.ownsMap_made w _ _ _, fun _ _ => ⟨rfl, rfl⟩⟩
theorem SetW.lt {W : World} {b n : Nat} {S : OSt → Bool} (h : SetW W b n S) : b < W.heap.size := by obtain ⟨D, h, -⟩ := h; exact h.lt
theorem SetW.same {W W' : World} {b n : Nat} {S : OSt → Bool} (h : SetW W b n S) (hb : W'.heap[b]? = W.heap[b]?) : SetW W' b n S := by
  obtain ⟨D, ⟨es, c, h1, h2⟩, h3⟩ := h
  exact ⟨D, ⟨es, c, hb.trans h1, h2⟩, h3⟩
theorem SetW.to {W W' : World} {b n : Nat} {S : OSt → Bool} (h : SetW W b n S) (hb : Below W.heap.size W W') : SetW W' b n S := h.same (hb.block b h.lt)
theorem SetW.mono {W : World} {b n n' : Nat} {S : OSt → Bool} (h : SetW W b n S) (hn : n ≤ n') : SetW W b n' S := by
  obtain ⟨D, h1, h3⟩ := h
  exact ⟨D, h1.mono hn, h3⟩
theorem SetW.ext {W : World} {b n : Nat} {S T : OSt → Bool} (h : SetW W b n S) (he : ∀ s, S s = T s) : SetW W b n T := by
  have : S = T := funext he
  rw [← this]; exact h
theorem SetW.grown {W W' : World} {b n : Nat} {S : OSt → Bool} {row : Option Nat} (h : SetW W b n S) (hg : W.grownBy W' row) (hr : some b ≠ row) : SetW W' b n S := by
  obtain ⟨D, h1, h3⟩ := h
  exact ⟨D, h1.kept hg hr, h3⟩
/-- Asked. -/
theorem SetW.ask {W : World} {b n : Nat} {S : OSt → Bool} (h : SetW W b n S) {s : OSt} (hs : StW s) : (Instr.lookup mpT (.map (some b)) (stV s) false).run Tryz.prog W = .ok (.bool (S s)) W := by
  obtain ⟨D, h1, h3⟩ := h
  obtain ⟨v, ps, hrun, hv⟩ := h1.lookup lawS undM (zeroB W) (plainElem_bool undB false) (keyS hs)
  rw [(h3 s hs).1] at hv
  obtain ⟨x, rfl, e⟩ := plainElem_bool_inv hv
  have e2 : DataW.lit (Lit.bool (S s)) = DataW.lit (Lit.bool x) := congrArg Prod.fst e
  have e3 : Lit.bool (S s) = Lit.bool x := DataW.lit.inj e2
  have e4 : S s = x := Lit.bool.inj e3
  rw [hrun, e4]
/-- Put in. -/
theorem SetW.put {W : World} {b n : Nat} {S : OSt → Bool} (h : SetW W b n S) {s : OSt} (hs : StW s) (hn : n < maxLen) :
    ∃ W', (Instr.mapUpdate mpT (.map (some b)) (stV s) (.bool true)).run Tryz.prog W = .ok () W' ∧ SetW W' b (n + 1) (fun x => S x || x == s) ∧ W.grownBy W' (some b) := by
  obtain ⟨D, h1, h3⟩ := h
  have hm : Maps.IsMap D := (h1.tidy lawS).isMap
  obtain ⟨W', hrun, h2, hg⟩ := h1.update lawS undM hn (keyS hs) (plainElem_bool undB true)
  refine ⟨W', hrun, ⟨_, h2, fun x hx => ?_⟩, hg⟩
  by_cases he : x = s
  · subst he
    rw [Maps.atKey_put_same hm (lawS.key (keyS hs)), Maps.has_put_same hm (lawS.key (keyS hs))]
    simp
  · rw [Maps.atKey_put_other (klS_ne hx hs he), Maps.has_put_other (klS_ne hx hs he), (h3 x hx).1, (h3 x hx).2]
    have : (x == s) = false := by simpa using he
    simp [this]
end
end Go.Proofs.YtjfedpblkejmkaaGreat
