/-
  Texts of this claim, in their build order: BS17 Lib20 OP14.
-/
import Derived.Test.YtfdlhhinomjakaaHel30
import Derived.Test.YtfdlhhinomjakaaHel36
import Derived.Test.YtfdlhhinomjakaaHel37
import Derived.Test.YtfdlhhinomjakaaHel25
import Derived.Test.YtfdlhhinomjakaaHel5
import Derived.Test.YtfdlhhinomjakaaHel27
import Derived.Test.YtfdlhhinomjakaaHel26
import Derived.Test.YtfdlhhinomjakaaHel0

namespace Go.Proofs.Ytfdlhhinomjakaa
section
set_option maxRecDepth 100000
set_option maxHeartbeats 1600000
open Go.RowKit

theorem each_ll (L : List (List Int)) (da : Nat → Option Addr × Nat) (a : Option Addr) (cap fid : Nat) (bx : Array Value) (w : World) (err : Nat → Int) (I : Nat → World → Prop) (hlen : L.length ≤ 100000)
    (hcf : ∀ args w, Sem.run Try.prog (callFunc fid args) w = .ok (.enter fid args) w)
    (h0 : I 0 w) (hrd : ∀ k w', k < L.length → I k w' → Reads w' a L.length (lsF L da))
    (hst : ∀ k w', k < L.length → I k w' → Calls Try.prog fid (#[.int .i64 k, .slice (da k).1 (ll L k).length (da k).2] ++ bx) w' fun e w'' => e = .returned (.int .i64 (err k)) ∧ I (k + 1) w'') :
    Calls Try.prog 34 #[.slice a L.length cap, .func (.func fid) #[] bx] w
      fun e w' => e = .returned (.tuple #[.int .i64 (eachR err 0 L.length).1, .int .i64 (eachR err 0 L.length).2]) ∧ ∃ k, k ≤ L.length ∧ I k w' ∧ ((eachR err 0 L.length).2 = 0 → k = L.length) := by
  have HRD := zH hrd
  have HST := zH hst
  have H0 := zH h0
  clear hrd hst h0
  go_enter Try.func34, Try.ntmps34
  go_wp2_with fail
  go_loopw [6, 7, 8, 11] (fun _ _ _ i wr => ∃ k : Nat, k ≤ L.length ∧ i = .int .i64 k ∧ Hid (eachR err 0 L.length = eachR err k (L.length - k)) ∧ Hid (I k wr)) (fun _ _ _ i _ => L.length - (intOf i).toNat)
  case atStart => exact ⟨0, Nat.zero_le _, rfl, zH rfl, H0⟩
  case round =>
    obtain ⟨k, hk, rfl, hr, hI⟩ := hrel
    by_cases hlt : k < L.length
    · obtain ⟨b, off, rfl, hb, hc⟩ := (HRD.out k _ hlt hI.out).at (k := k) hlt
      have c0 : wr.cell? ⟨b, off + k, none⟩ = some (.slice (da k).1 (ll L k).length (da k).2) := hc k hlt
      clear hc
      by_cases hz : err k = 0
      · have hz' : (err k != 0) = false := by simpa using hz
        have HZ := zH hz
        clear hz
        go_wp2_with fail
        refine (HST.out k _ hlt hI.out).mono ?_
        rintro e w' ⟨rfl, hI'⟩
        have hI' := zH hI'
        go_wp2_with fail
        go_roundw
        case rel => exact ⟨k + 1, by omega, by go_num, hr.out.trans (eachR_step hlt HZ.out), hI'⟩
        case measure => simp [intOf]; omega
      · have hz' : (err k != 0) = true := by simpa using hz
        have HZ := zH hz
        clear hz
        go_wp2_with fail
        refine (HST.out k _ hlt hI.out).mono ?_
        rintro e w' ⟨rfl, hI'⟩
        have hI' := zH hI'
        go_wp2_with fail
        go_ret2
        have HS := eachR_stop hlt HZ.out
        exact ⟨by rw [hr.out, HS]; rfl, k + 1, by omega, hI'.out, fun h => by rw [hr.out, HS] at h; exact absurd h HZ.out⟩
    · have : k = L.length := by omega
      subst this
      go_wp2
      go_ret2
      exact ⟨by rw [hr.out, Nat.sub_self]; rfl, L.length, Nat.le_refl _, hI.out, fun _ => rfl⟩

theorem grown_below {w w1 w2 : World} {r : Option Nat} (h : Below w.heap.size w w1) (hg : w1.grownBy w2 r) : w.grownBy w2 r :=
  ⟨hg.os.trans h.os, hg.tape.trans h.tape, hg.output.trans h.output, Nat.le_trans h.size hg.size, fun k hk hne => (hg.block k (Nat.lt_of_lt_of_le hk h.size) hne).trans (h.block k hk)⟩
/-- A list's state. -/
def p4 (l : List Int) : List Int := [gi l 0, gi l 1, gi l 2, gi l 3]
/-- The error of one list among others. -/
def clE (x : HT) (L : List (List Int)) (k : Nat) : Int := firstE [stateE x (ll L k), unl (decide (k = 0) || decide (cmpL (ll L (k - 1)) (ll L k) < 0)) 9]

theorem cc1_any (x : HT) (L : List (List Int)) (da : Nat → Option Addr × Nat) (aL : Option Addr) (cL p7 p3 p8 m n k : Nat) (F : List Int → Option Value) (w : World) (hx : x.ok) (hfew : L.length ≤ 100000) (hn : n < 100000) (hk : k < L.length)
    (hrow : ∀ l ∈ L, l.length ≤ 6 ∧ BdH (p4 l)) (h7 : Blk w p7 x.cells) (h3 : Blk w p3 #[.slice aL L.length cL]) (h8 : Blk w p8 #[.map (some m)]) (hm : MapV w m n F) (hL : LsR w aL L da) :
    Calls Try.prog 35 (#[.int .i64 k, .slice (da k).1 (ll L k).length (da k).2] ++ #[.pointer (some ⟨p7, 0, none⟩), .pointer (some ⟨p3, 0, none⟩), .pointer (some ⟨p8, 0, none⟩)]) w
      fun e w' => e = .returned (.int .i64 (clE x L k)) ∧ MapV w' m (n + 1) (fun z => if z = p4 (ll L k) then some (.agg #[]) else F z) ∧ w.grownBy w' (some m) := by
  have hr := hL.dm k hk
  have hrw := hrow _ (ll_mem hk)
  have hl6 := hrw.1
  have HKY := zH hrw.2
  have HR := zH hr
  have HSE := zH (fun W hr => stateErr_any x (ll L k) (da k).1 (da k).2 W hx (by unfold maxLen; omega) hr)
  have HSO := zH (fun W hr => stateOf_g (ll L k) (da k).1 (da k).2 W hr)
  have HM := zH hm
  have H3 := zH h3
  have H8 := zH h8
  have HL := zH hL
  have HCE := zH (show clE x L k = firstE [stateE x (ll L k), unl (decide (k = 0) || decide (cmpL (ll L (k - 1)) (ll L k) < 0)) 9] from rfl)
  obtain ⟨-, k7, -⟩ := h7
  rw [HCE.out]
  obtain ⟨se, hse⟩ : ∃ s, stateE x (ll L k) = s := ⟨_, rfl⟩
  rw [hse] at HSE ⊢
  clear hse hr hrw h3 h8 hm hL HCE
  by_cases h0 : k = 0
  · subst h0
    rw [show (decide ((0 : Nat) = 0) || decide (cmpL (ll L (0 - 1)) (ll L 0) < 0)) = true from rfl]
    go_enter Try.func35, Try.ntmps35
    go_wp2_with fail
    refine (HSE.out _ HR.out).mono ?_
    rintro e w1 ⟨rfl, hb1⟩
    go_wp2_with (first | (go_at_call 33; refine (unless_any _ _ _).mono ?_; rintro e w' ⟨rfl, rfl⟩))
    refine (first2_new _ _ _ _ (by simp)).mono ?_; rintro e w' ⟨rfl, rfl⟩
    go_wp2_with fail
    obtain ⟨w2, hw2⟩ : ∃ u, w1.alloc (.cells #[.int .i64 se, .int .i64 (unl true 9)] 31) = u := ⟨_, rfl⟩
    have HB : Hid (Below w.heap.size w w2) := by subst hw2; exact zH (bThen hb1 (bAlloc (bSelf _) _))
    rw [hw2]
    clear hw2 hb1
    refine wp_region_treeT 4 (by kernel_rfl) (by kernel_rfl) (fun wd hwd => ?_)
    have T := zH hwd
    clear hwd
    refine WE_yes 0 rfl (by kernel_rfl) (fun _ _ _ _ _ h => h) (by rfl) ?_; apply Exists.intro; refine ⟨fun w1 hb1 => ?_, ?_⟩; (focus (((obtain ⟨-, k8, -⟩ := H8.out.to (bThen HB.out (T.out.trans hb1))); have hb1 := zH hb1; go_simp); (try (go_bits; try go_simp)); (try (rw [if_pos (by omega)]; try go_simp)); (first | done | (with_reducible rfl) | exact rfl)))
    simp only [Act.put, zzT, zzO, zzS]
    refine WE_yes 1 rfl (by kernel_rfl) (fun _ _ _ _ _ h => h) (by rfl) ?_; apply Exists.intro; refine ⟨fun w1 hb1 => ?_, ?_⟩; (focus ((have hb1 := zH hb1; go_simp); (try (go_bits; try go_simp)); (try (rw [if_pos (by omega)]; try go_simp)); (first | done | (with_reducible rfl) | exact rfl)))
    simp only [Act.put, zzT, zzO, zzS]
    refine WE_yes 3 rfl (by kernel_rfl) (fun _ _ _ _ _ h => h) (by rfl) ⟨.agg #[], fun w1 hb1 => (by go_simp), ?_⟩
    simp only [Act.put, zzT, zzO, zzS]
    refine WE_one 2 rfl (by decide) (by kernel_rfl) ?_
    unfold stepE
    go_wp2_with fail
    refine (HSO.out _ (HR.out.to (bThen HB.out T.out))).mono ?_
    rintro e w9 ⟨rfl, hb⟩
    have hbd := zH (hb.mono T.out.size)
    have HB9 := zH (bThen (bThen HB.out T.out) hb)
    clear hb T HB
    go_wp2_with fail
    refine ⟨hbd.out, ?_⟩
    clear hbd
    refine WE_tail rfl (by kernel_rfl) ?_
    simp only [List.drop_succ_cons, List.drop_zero]
    obtain ⟨W1, hput, hmp, hgr⟩ := (HM.out.to HB9.out).put undSe HKY.out (by unfold maxLen; omega) (.agg #[])
    have hput' : (Instr.mapUpdate seT (.map (some m)) (.agg (l4 (ll L 0))) (.agg #[])).run Try.prog w9 = .ok () W1 := hput
    have HMP := zH hmp
    have HGR := zH hgr
    clear hput hmp hgr
    go_wp2_with fail
    go_ret
    exact ⟨rfl, HMP.out, grown_below HB9.out HGR.out⟩
  · rw [show (decide (k = 0) || decide (cmpL (ll L (k - 1)) (ll L k) < 0)) = decide (cmpL (ll L (k - 1)) (ll L k) < 0) by rw [decide_eq_false h0]; rfl]
    have hk1 : k - 1 < L.length := by omega
    obtain ⟨b, off, rfl, hb0, hc⟩ := HL.out.rd.at (k := k - 1) hk1
    have HC1 : Hid (w.cell? ⟨b, off + (k - 1), none⟩ = some (.slice (da (k - 1)).1 (ll L (k - 1)).length (da (k - 1)).2)) := zH (hc (k - 1) hk1)
    have hl5 := (hrow _ (ll_mem hk1)).1
    have HCM := zH (fun W h1 h2 => slCompare_any (ll L (k - 1)) (ll L k) (da (k - 1)).1 (da k).1 (da (k - 1)).2 (da k).2 W (by omega) (by omega) h1 h2)
    have HR1 := zH (HL.out.dm (k - 1) hk1)
    rcases (show k = 1 ∨ 2 ≤ k by omega) with rfl | h2
    · replace HC1 : Hid (w.cell? ⟨b, off, none⟩ = some (.slice (da (1 - 1)).1 (ll L (1 - 1)).length (da (1 - 1)).2)) := HC1
      clear hc
      go_enter Try.func35, Try.ntmps35
      go_wp2_with fail
      refine (HSE.out _ HR.out).mono ?_
      rintro e w1 ⟨rfl, hb1⟩
      obtain ⟨-, k3, -⟩ := H3.out.to hb1
      have c1 := (hb1.cell (p := ⟨b, off, none⟩) hb0).trans HC1.out
      go_wp2_with fail
      refine (HCM.out _ (HR1.out.to hb1) (HR.out.to hb1)).mono ?_
      rintro e w' ⟨rfl, rfl⟩
      clear k3 c1
      go_wp2_with (first | (go_at_call 33; refine (unless_any _ _ _).mono ?_; rintro e w' ⟨rfl, rfl⟩))
      refine (first2_new _ _ _ _ (by simp)).mono ?_; rintro e w' ⟨rfl, rfl⟩
      go_wp2_with fail
      obtain ⟨w2, hw2⟩ : ∃ u, w1.alloc (.cells #[.int .i64 se, .int .i64 (unl (decide (cmpL (ll L 0) (ll L 1) < 0)) 9)] 31) = u := ⟨_, rfl⟩
      have HB : Hid (Below w.heap.size w w2) := by subst hw2; exact zH (bThen hb1 (bAlloc (bSelf _) _))
      rw [hw2]
      clear hw2 hb1
      refine wp_region_treeT 4 (by kernel_rfl) (by kernel_rfl) (fun wd hwd => ?_)
      have T := zH hwd
      clear hwd
      refine WE_yes 0 rfl (by kernel_rfl) (fun _ _ _ _ _ h => h) (by rfl) ?_; apply Exists.intro; refine ⟨fun w1 hb1 => ?_, ?_⟩; (focus (((obtain ⟨-, k8, -⟩ := H8.out.to (bThen HB.out (T.out.trans hb1))); have hb1 := zH hb1; go_simp); (try (go_bits; try go_simp)); (try (rw [if_pos (by omega)]; try go_simp)); (first | done | (with_reducible rfl) | exact rfl)))
      simp only [Act.put, zzT, zzO, zzS]
      refine WE_yes 1 rfl (by kernel_rfl) (fun _ _ _ _ _ h => h) (by rfl) ?_; apply Exists.intro; refine ⟨fun w1 hb1 => ?_, ?_⟩; (focus ((have hb1 := zH hb1; go_simp); (try (go_bits; try go_simp)); (try (rw [if_pos (by omega)]; try go_simp)); (first | done | (with_reducible rfl) | exact rfl)))
      simp only [Act.put, zzT, zzO, zzS]
      refine WE_yes 3 rfl (by kernel_rfl) (fun _ _ _ _ _ h => h) (by rfl) ⟨.agg #[], fun w1 hb1 => (by go_simp), ?_⟩
      simp only [Act.put, zzT, zzO, zzS]
      refine WE_one 2 rfl (by decide) (by kernel_rfl) ?_
      unfold stepE
      go_wp2_with fail
      refine (HSO.out _ (HR.out.to (bThen HB.out T.out))).mono ?_
      rintro e w9 ⟨rfl, hb⟩
      have hbd := zH (hb.mono T.out.size)
      have HB9 := zH (bThen (bThen HB.out T.out) hb)
      clear hb T HB
      go_wp2_with fail
      refine ⟨hbd.out, ?_⟩
      clear hbd
      refine WE_tail rfl (by kernel_rfl) ?_
      simp only [List.drop_succ_cons, List.drop_zero]
      obtain ⟨W1, hput, hmp, hgr⟩ := (HM.out.to HB9.out).put undSe HKY.out (by unfold maxLen; omega) (.agg #[])
      have hput' : (Instr.mapUpdate seT (.map (some m)) (.agg (l4 (ll L 1))) (.agg #[])).run Try.prog w9 = .ok () W1 := hput
      have HMP := zH hmp
      have HGR := zH hgr
      clear hput hmp hgr
      go_wp2_with fail
      go_ret
      exact ⟨rfl, HMP.out, grown_below HB9.out HGR.out⟩
    · have hk0 : ((k : Int) == 0) = false := by simpa using h0
      have hkn : ¬ (k : Int) ≤ 1 := by omega
      have hkp : (2 : Int) ≤ (k : Int) := by omega
      have hkc : (k : Int) - 1 = ((k - 1 : Nat) : Int) := by omega
      have hk3 : (k : Int) ≤ 100000 := by omega
      clear hc
      go_enter Try.func35, Try.ntmps35
      go_wp2_with fail
      refine (HSE.out _ HR.out).mono ?_
      rintro e w1 ⟨rfl, hb1⟩
      obtain ⟨-, k3, -⟩ := H3.out.to hb1
      have c1 := (hb1.cell (p := ⟨b, off + (k - 1), none⟩) hb0).trans HC1.out
      go_wp2_with fail
      refine (HCM.out _ (HR1.out.to hb1) (HR.out.to hb1)).mono ?_
      rintro e w' ⟨rfl, rfl⟩
      clear k3 c1
      go_wp2_with (first | (go_at_call 33; refine (unless_any _ _ _).mono ?_; rintro e w' ⟨rfl, rfl⟩))
      refine (first2_new _ _ _ _ (by simp)).mono ?_; rintro e w' ⟨rfl, rfl⟩
      go_wp2_with fail
      obtain ⟨w2, hw2⟩ : ∃ u, w1.alloc (.cells #[.int .i64 se, .int .i64 (unl (decide (cmpL (ll L (k - 1)) (ll L k) < 0)) 9)] 31) = u := ⟨_, rfl⟩
      have HB : Hid (Below w.heap.size w w2) := by subst hw2; exact zH (bThen hb1 (bAlloc (bSelf _) _))
      rw [hw2]
      clear hw2 hb1
      refine wp_region_treeT 4 (by kernel_rfl) (by kernel_rfl) (fun wd hwd => ?_)
      have T := zH hwd
      clear hwd
      refine WE_yes 0 rfl (by kernel_rfl) (fun _ _ _ _ _ h => h) (by rfl) ?_; apply Exists.intro; refine ⟨fun w1 hb1 => ?_, ?_⟩; (focus (((obtain ⟨-, k8, -⟩ := H8.out.to (bThen HB.out (T.out.trans hb1))); have hb1 := zH hb1; go_simp); (try (go_bits; try go_simp)); (try (rw [if_pos (by omega)]; try go_simp)); (first | done | (with_reducible rfl) | exact rfl)))
      simp only [Act.put, zzT, zzO, zzS]
      refine WE_yes 1 rfl (by kernel_rfl) (fun _ _ _ _ _ h => h) (by rfl) ?_; apply Exists.intro; refine ⟨fun w1 hb1 => ?_, ?_⟩; (focus ((have hb1 := zH hb1; go_simp); (try (go_bits; try go_simp)); (try (rw [if_pos (by omega)]; try go_simp)); (first | done | (with_reducible rfl) | exact rfl)))
      simp only [Act.put, zzT, zzO, zzS]
      refine WE_yes 3 rfl (by kernel_rfl) (fun _ _ _ _ _ h => h) (by rfl) ⟨.agg #[], fun w1 hb1 => (by go_simp), ?_⟩
      simp only [Act.put, zzT, zzO, zzS]
      refine WE_one 2 rfl (by decide) (by kernel_rfl) ?_
      unfold stepE
      go_wp2_with fail
      refine (HSO.out _ (HR.out.to (bThen HB.out T.out))).mono ?_
      rintro e w9 ⟨rfl, hb⟩
      have hbd := zH (hb.mono T.out.size)
      have HB9 := zH (bThen (bThen HB.out T.out) hb)
      clear hb T HB
      go_wp2_with fail
      refine ⟨hbd.out, ?_⟩
      clear hbd
      refine WE_tail rfl (by kernel_rfl) ?_
      simp only [List.drop_succ_cons, List.drop_zero]
      obtain ⟨W1, hput, hmp, hgr⟩ := (HM.out.to HB9.out).put undSe HKY.out (by unfold maxLen; omega) (.agg #[])
      have hput' : (Instr.mapUpdate seT (.map (some m)) (.agg (l4 (ll L k))) (.agg #[])).run Try.prog w9 = .ok () W1 := hput
      have HMP := zH hmp
      have HGR := zH hgr
      clear hput hmp hgr
      go_wp2_with fail
      go_ret
      exact ⟨rfl, HMP.out, grown_below HB9.out HGR.out⟩
end
section
open Go.RowKit

/-- Marks of ranges that have collected nothing. -/
structure Marks (ds : List Deferred) (w : World) : Prop where
  nd : (ds.map (·.target)).Nodup
  at1 : ∀ d ∈ ds, ∃ D, d.target = .collected D ∧ w.heap[D]? = some (.deferred (some []))
theorem Marks.nil (w : World) : Marks [] w := ⟨List.nodup_nil, fun d hd => by cases hd⟩
theorem Marks.lt {ds : List Deferred} {w : World} (h : Marks ds w) {D : Nat} (hd : ∃ d ∈ ds, d.target = .collected D) : D < w.heap.size := by
  obtain ⟨d, hd, e⟩ := hd
  obtain ⟨D', e', hD⟩ := h.at1 d hd
  rw [e] at e'
  injection e' with e'
  subst e'
  exact (Array.getElem?_eq_some_iff.1 hD).1
theorem Marks.same {ds : List Deferred} {w w' : World} (h : Marks ds w) (hb : ∀ D, (∃ d ∈ ds, d.target = .collected D) → w'.heap[D]? = w.heap[D]?) : Marks ds w' :=
  ⟨h.nd, fun d hd => by
    obtain ⟨D, e, hD⟩ := h.at1 d hd
    exact ⟨D, e, (hb D ⟨d, hd, e⟩).trans hD⟩⟩
theorem Marks.to {ds : List Deferred} {w w' : World} (h : Marks ds w) (hb : Below w.heap.size w w') : Marks ds w' := h.same fun D hD => hb.block D (h.lt hD)
/-- One more: its mark is new. -/
theorem Marks.cons {ds : List Deferred} {w0 w : World} {D : Nat} (h0 : Marks ds w0) (h : Marks ds w) (hD : w0.heap.size ≤ D) (hd : w.heap[D]? = some (.deferred (some []))) : Marks ({ target := .collected D, args := #[] } :: ds) w := by
  refine ⟨?_, fun d hm => ?_⟩
  · rw [List.map_cons, List.nodup_cons]
    refine ⟨fun hm => ?_, h.nd⟩
    obtain ⟨d, hd1, e⟩ := List.mem_map.1 hm
    have := h0.lt ⟨d, hd1, e⟩
    omega
  · rcases List.mem_cons.1 hm with rfl | hm
    · exact ⟨D, rfl, hd⟩
    · exact h.at1 d hm
/-- At the function's end all marks are taken. -/
theorem leaves_marks {F : Fence} {n : Nat} {P : Program} {fn : Func} {tmps : Array Value} {R : Ending → World → Prop} : ∀ (ds : List Deferred) (w : World), Marks ds w →
    (∀ w', (∀ k, (∀ d ∈ ds, d.target ≠ .collected k) → w'.heap[k]? = w.heap[k]?) → w'.heap.size = w.heap.size → w'.os = w.os → w'.tape = w.tape → w'.output = w.output → LeavesIn F n P fn tmps R [] .returning w') →
    LeavesInM F n P fn tmps R ds .returning w
  | [], w, _, h => h w (fun _ _ => rfl) rfl rfl rfl rfl
  | d :: ds, w, hm, h => by
    obtain ⟨D, e, hD⟩ := hm.at1 d (List.mem_cons_self ..)
    have hnd := List.nodup_cons.1 (show (d.target :: ds.map (·.target)).Nodup from hm.nd)
    refine ⟨by simp, .inl ⟨D, _, e, run_takeDeferred hD, ?_⟩⟩
    have hne : ∀ k, (∃ d' ∈ ds, d'.target = .collected k) → k ≠ D := fun k hk e2 => by
      obtain ⟨d', hd', e3⟩ := hk
      subst e2
      exact hnd.1 (List.mem_map.2 ⟨d', hd', e3.trans e.symm⟩)
    refine leaves_marks ds _ ⟨hnd.2, fun d' hd' => ?_⟩ (fun w' hs hz h1 h2 h3 => h w' (fun k hk => ?_) (hz.trans (by simp)) h1 h2 h3)
    · obtain ⟨D', e', hD'⟩ := hm.at1 d' (List.mem_cons_of_mem _ hd')
      exact ⟨D', e', (World.putObj_heap_other (hne D' ⟨d', hd', e'⟩)).trans hD'⟩
    · rw [hs k (fun d' hd' => hk d' (List.mem_cons_of_mem _ hd'))]
      exact World.putObj_heap_other (fun e2 => hk d (List.mem_cons_self ..) (by rw [e2]; exact e))
end
section
open Go.RowKit

theorem rngL_mem {r : Int × Int} {n : Int} : n ∈ rngL r ↔ r.1 ≤ n ∧ n ≤ r.2 := by
  unfold rngL
  rw [List.mem_map]
  constructor
  · rintro ⟨i, hi, rfl⟩
    rw [List.mem_range] at hi
    omega
  · rintro ⟨h1, h2⟩
    exact ⟨(n - r.1).toNat, List.mem_range.2 (by omega), by omega⟩
end
end Go.Proofs.Ytfdlhhinomjakaa
