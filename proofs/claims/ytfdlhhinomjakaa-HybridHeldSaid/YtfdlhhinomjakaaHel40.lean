/-
  Texts of this claim, in their build order: BS19 BS6 Lib23.
-/
import Derived.Test.YtfdlhhinomjakaaHel39
import Derived.Test.YtfdlhhinomjakaaHel8
import Derived.Test.YtfdlhhinomjakaaHel36
import Derived.Shelf.SlSortCmp.WholeK
import Derived.Shelf.SlGeneric
import Derived.Shelf.SlSortCmp.NoneTotal
import Derived.Sort.OwnSorted
import Derived.Test.YtfdlhhinomjakaaHel0

namespace Go.Proofs.Ytfdlhhinomjakaa
section
open Go.RowKit

/-- What CheckClosed hands back. -/
def clsR (x : HT) (L : List (List Int)) : Int × Int :=
  if (eachR (clE x L) 0 L.length).2 ≠ 0 then eachR (clE x L) 0 L.length
  else if [0, 0, 0, 0] ∈ L.map p4 then eachR (fun k => clsQ x (L.map p4) (p4 (ll L k)) (rngL (x.lo, x.hi))) 0 L.length else (0, 6)
def clsV (x : HT) (te : Int) (L : List (List Int)) : Int × Int := if te ≠ 0 then (0, te) else clsR x L
theorem p4_st {x : HT} {zs : List Int} (h : RSt x zs) : StH (p4 zs) := ⟨rfl, fun i hi => by
  match i, hi with
  | 0, _ => exact h.bd 0
  | 1, _ => exact h.bd 1
  | 2, _ => exact h.bd 2
  | 3, _ => exact h.bd 3⟩
theorem clE_st {x : HT} {L : List (List Int)} (hx : x.ok) (h : (eachR (clE x L) 0 L.length).2 = 0) {k : Nat} (hk : k < L.length) : RSt x (ll L k) := by
  have h1 := eachR_zero _ _ h k (Nat.zero_le _) (by omega)
  unfold clE at h1
  exact stateE_zero hx (firstE_zero h1 _ (List.mem_cons_self ..))

set_option maxHeartbeats 1600000 in
set_option maxRecDepth 100000 in
theorem CheckClosed_any (x : HT) (L : List (List Int)) (da : Nat → Option Addr × Nat) (aL : Option Addr) (cL : Nat) (w : World) (hfew : L.length ≤ 2500) (hrow : ∀ l ∈ L, l.length ≤ 6 ∧ BdH (p4 l)) (hL : LsR w aL L da) :
    Calls Try.prog 10 #[.agg x.cells, .slice aL L.length cL] w fun e w' => e = .returned (.tuple #[.int .i64 (clsV x (testE x) L).1, .int .i64 (clsV x (testE x) L).2]) ∧ Below w.heap.size w w' := by
  have hmm := @run_makeMap Try.prog
  have HCT := zH (fun W => CheckTest_any x W)
  have hok := @testE_zero x
  obtain ⟨te, hte⟩ : ∃ t, testE x = t := ⟨_, rfl⟩
  rw [hte] at HCT hok ⊢
  have HOK := zH hok
  have HL := zH hL
  have HROW := zH hrow
  clear hte hok hL hrow
  go_enter Try.func10, Try.ntmps10
  go_wp2_with fail
  refine (HCT.out _).mono ?_
  rintro e w1 ⟨rfl, hb⟩
  have K2 := zH (((Blk.new w x.cells 25).alloc (.cells #[.slice aL L.length cL] 30)).to hb)
  have K3 := zH ((Blk.newAt (B := w.heap.size + 1) (w.alloc (.cells x.cells 25)) #[.slice aL L.length cL] 30 (by simp)).to hb)
  have HB := zH (bThen (bAlloc (bAlloc (bSelf w) _) _) hb)
  clear hb HCT
  obtain ⟨-, k2, -⟩ := K2.out
  by_cases h0 : te = 0
  · subst h0
    have hx := HOK.out rfl
    have HV : Hid (clsV x 0 L = clsR x L) := zH (by unfold clsV; rw [if_neg (fun h => h rfl)])
    go_upto_region 6 with (fail)
    obtain ⟨w4, hw4⟩ : ∃ u, ((w1.alloc (.cells x.cells 68)).alloc (.map #[] 0)).alloc (.cells #[.map (some (w1.heap.size + 1))] 78) = u := ⟨_, rfl⟩
    rw [hw4]
    have hb4 : Below w1.heap.size w1 w4 := by subst hw4; exact bAlloc (bAlloc (bAlloc (bSelf _) _) _) _
    have H7 : Hid (Blk w4 w1.heap.size x.cells) := by subst hw4; exact zH (((Blk.new _ _ _).alloc _).alloc _)
    have H8 : Hid (Blk w4 (w1.heap.size + 1 + 1) #[.map (some (w1.heap.size + 1))]) := by subst hw4; exact zH (Blk.newAt _ _ _ (by simp))
    have HM : Hid (MapV w4 (w1.heap.size + 1) 0 (setF [])) := by
      subst hw4
      have h1 := MapV.new (w1.alloc (.cells x.cells 68))
      rw [World.size_alloc] at h1
      exact zH ((h1.to (bAlloc (bSelf _) _)).ext (fun s _ => rfl))
    have H3 := zH (K3.out.to hb4)
    have HB4 := zH (bThen HB.out hb4)
    have HL4 := zH (HL.out.to HB4.out)
    have hp3 : w.heap.size + 1 < w1.heap.size := K3.out.1
    clear hw4 hb4 k2 K2 K3 hmm
    obtain ⟨q, hq⟩ : ∃ q, w1.heap.size = q := ⟨_, rfl⟩
    rw [hq] at H7 H8 HM hp3 ⊢
    clear hq HB
    have HE1 := zH (each_ll L da aL cL 35 #[.pointer (some ⟨q, 0, none⟩), .pointer (some ⟨w.heap.size + 1, 0, none⟩), .pointer (some ⟨q + 1 + 1, 0, none⟩)] w4 (clE x L)
      (fun k w' => MapV w' (q + 1) k (setF ((L.take k).map p4)) ∧ w4.grownBy w' (some (q + 1))) (by omega) (by intro args w; go_simp)
      ⟨HM.out, ⟨rfl, rfl, rfl, Nat.le_refl _, fun _ _ _ => rfl⟩⟩ (fun k w' hk hI => (HL.out.to (HB4.out.grown hI.2 HB4.out.size (fun k e => by injection e with e; omega))).rd) (fun k w' hk hI => by
        refine (cc1_any x L da aL cL q (w.heap.size + 1) (q + 1 + 1) (q + 1) k k _ w' hx (by omega) (by omega) hk HROW.out (blk_grown H7.out hI.2 (fun e => by injection e with e; omega)) (blk_grown H3.out hI.2 (fun e => by injection e with e; omega)) (blk_grown H8.out hI.2 (fun e => by injection e with e; omega)) hI.1 (HL.out.to (HB4.out.grown hI.2 HB4.out.size (fun k e => by injection e with e; omega)))).mono ?_
        · rintro e w'' ⟨he, hm, hg⟩
          refine ⟨he, ?_, hI.2.trans hg⟩
          refine hm.ext (fun s _ => ?_)
          rw [setF_snoc, List.take_succ_eq_append_getElem hk, List.map_append, ll_lt hk]
          rfl))
    obtain ⟨-, k3, -⟩ := H3.out
    go_wp2_with fail
    refine HE1.out.mono ?_
    rintro e w5 ⟨rfl, k, hk, hI, hz⟩
    have HB5 : Hid (Below w.heap.size w w5) := zH (HB4.out.grown hI.2 HB4.out.size (fun k e => by injection e with e; omega))
    have H75 := zH (blk_grown H7.out hI.2 (fun e => by injection e with e; omega))
    have H35 := zH (blk_grown H3.out hI.2 (fun e => by injection e with e; omega))
    have H85 := zH (blk_grown H8.out hI.2 (fun e => by injection e with e; omega))
    have HM5 := zH hI.1
    have HZ := zH hz
    have HST := zH (fun (h : (eachR (clE x L) 0 L.length).2 = 0) (k : Nat) (hk : k < L.length) => p4_st (clE_st hx h hk))
    have HCR : Hid (clsR x L = if (eachR (clE x L) 0 L.length).2 ≠ 0 then eachR (clE x L) 0 L.length else if [0, 0, 0, 0] ∈ L.map p4 then eachR (fun k => clsQ x (L.map p4) (p4 (ll L k)) (rngL (x.lo, x.hi))) 0 L.length else (0, 6)) := zH rfl
    clear hI hz k3 HE1 HM H7 H8 H3 HL4 HB4
    obtain ⟨r, hr⟩ : ∃ r, eachR (clE x L) 0 L.length = r := ⟨_, rfl⟩
    rw [hr] at HZ HST HCR ⊢
    clear hr
    obtain ⟨r1, r2⟩ := r
    dsimp only at HZ HST HCR ⊢
    by_cases hr2 : r2 = 0
    · subst hr2
      have hkL := HZ.out rfl
      subst hkL
      rw [List.take_length] at HM5
      have HST0 := zH (HST.out rfl)
      obtain ⟨-, k8, -⟩ := H85.out
      by_cases hin : [0, 0, 0, 0] ∈ L.map p4
      · have hask : (Instr.lookup seT (.map (some (q + 1))) (.agg #[.int .i64 0, .int .i64 0, .int .i64 0, .int .i64 0]) true).run Try.prog w5 = .ok (.tuple #[.agg #[], .bool true]) w5 := by
          have h1 := HM5.out.askOk undSe (zeroU _) StH.zero.key
          rw [setF_val, setF_is, decide_eq_true hin] at h1
          exact h1
        have HCR2 : Hid (clsR x L = eachR (fun k => clsQ x (L.map p4) (p4 (ll L k)) (rngL (x.lo, x.hi))) 0 L.length) := zH (by rw [HCR.out, if_neg (fun h => h rfl), if_pos hin])
        clear HCR hin
        go_upto_region 12 with (fail)
        obtain ⟨w6, hw6⟩ : ∃ u, w5.alloc (.cells #[] 83) = u := ⟨_, rfl⟩
        rw [hw6]
        have hb6 : Below w5.heap.size w5 w6 := by subst hw6; exact bAlloc (bSelf _) _
        have H76 := zH (H75.out.to hb6)
        have H86 := zH (H85.out.to hb6)
        have HM6 := zH (HM5.out.to hb6)
        have HB6 := zH (bThen HB5.out hb6)
        have HE2 := zH (each_ll L da aL cL 40 #[.pointer (some ⟨q, 0, none⟩), .pointer (some ⟨q + 1 + 1, 0, none⟩)] w6 (fun k => clsQ x (L.map p4) (p4 (ll L k)) (rngL (x.lo, x.hi)))
          (fun _ w' => Below w6.heap.size w6 w') (by omega) (by intro args w; go_simp) (bSelf _) (fun k w' hk hI => (HL.out.to (bThen HB6.out hI)).rd) (fun k w' hk hI => by
            refine (cc2_any x (ll L k) (L.map p4) (da k).1 (da k).2 q (q + 1 + 1) (q + 1) L.length k w' hx (HST0.out k hk) (H76.out.to hI) (H86.out.to hI) (HM6.out.to hI) ((HL.out.to (bThen HB6.out hI)).dm k hk)).mono ?_
            rintro e w'' ⟨he, hb⟩
            exact ⟨he, bThen hI hb⟩))
        obtain ⟨-, k3, -⟩ := H35.out.to hb6
        clear hb6 hw6 hask k8
        go_wp2_with fail
        refine HE2.out.mono ?_
        rintro e w7 ⟨rfl, k, hk, hI, -⟩
        have HB7 := zH (bThen HB6.out hI)
        clear hI
        go_wp2_with fail
        go_ret2
        exact ⟨by rw [HV.out, HCR2.out]; rfl, HB7.out⟩
      · have hask : (Instr.lookup seT (.map (some (q + 1))) (.agg #[.int .i64 0, .int .i64 0, .int .i64 0, .int .i64 0]) true).run Try.prog w5 = .ok (.tuple #[.agg #[], .bool false]) w5 := by
          have h1 := HM5.out.askOk undSe (zeroU _) StH.zero.key
          rw [setF_val, setF_is, decide_eq_false hin] at h1
          exact h1
        have HCR2 : Hid (clsR x L = (0, 6)) := zH (by rw [HCR.out, if_neg (fun h => h rfl), if_neg hin])
        clear HCR hin
        go_wp2_with fail
        go_ret2
        exact ⟨by rw [HV.out, HCR2.out]; rfl, bThen HB5.out (bAlloc (bSelf _) _)⟩
    · have HCR2 : Hid (clsR x L = (r1, r2)) := zH (by rw [HCR.out, if_pos hr2])
      have hr2' : (r2 != 0) = true := by simpa using hr2
      clear HCR
      go_wp2_with fail
      go_ret2
      exact ⟨by rw [HV.out, HCR2.out]; rfl, HB5.out⟩
  · have HV : Hid (clsV x te L = (0, te)) := zH (by unfold clsV; rw [if_pos h0])
    go_wp2_with fail
    go_ret2
    exact ⟨by rw [HV.out]; rfl, HB.out⟩
end
section
open Go.Shelf
def sortStatesH_ren : Go.Shelf.Ren := ⟨fun | 6 => 54 | 15 => 74 | 14 => 73 | 28 => 88 | 29 => 89 | 20 => 80 | 21 => 81 | 22 => 82 | 23 => 83 | 24 => 84 | 25 => 85 | 26 => 86 | 27 => 87 | 46 => 90 | 47 => 91 | 48 => 92 | 49 => 93 | 50 => 94 | 57 => 95 | n => n, fun | 22 => 69 | 24 => 72 | 25 => 104 | 3 => 3 | 39 => 122 | 0 => 0 | 53 => 135 | 55 => 137 | 4 => 4 | 46 => 128 | 45 => 127 | 50 => 132 | 5 => 5 | 9 => 9 | 66 => 138 | 70 => 142 | 76 => 144 | 77 => 145 | n => n, fun | n => n⟩
theorem sortStatesH : Go.Proofs.SlLaysF0.n6 Try.prog sortStatesH_ren := {
  mixed := by kernel_rfl
  f6 := ⟨Try.f54.name, by decide, Try.func54.trans (congrArg some (by kernel_rfl))⟩
  f14 := ⟨Try.f73.name, by decide, Try.func73.trans (congrArg some (by kernel_rfl))⟩
  f15 := Try.func74.trans (congrArg some (by kernel_rfl))
  f20 := ⟨Try.f80.name, by decide, Try.func80.trans (congrArg some (by kernel_rfl))⟩
  f21 := ⟨Try.f81.name, by decide, Try.func81.trans (congrArg some (by kernel_rfl))⟩
  f22 := ⟨Try.f82.name, by decide, Try.func82.trans (congrArg some (by kernel_rfl))⟩
  f23 := ⟨Try.f83.name, by decide, Try.func83.trans (congrArg some (by kernel_rfl))⟩
  f24 := ⟨Try.f84.name, by decide, Try.func84.trans (congrArg some (by kernel_rfl))⟩
  f25 := ⟨Try.f85.name, by decide, Try.func85.trans (congrArg some (by kernel_rfl))⟩
  f26 := ⟨Try.f86.name, by decide, Try.func86.trans (congrArg some (by kernel_rfl))⟩
  f27 := ⟨Try.f87.name, by decide, Try.func87.trans (congrArg some (by kernel_rfl))⟩
  f28 := Try.func88.trans (congrArg some (by kernel_rfl))
  f29 := Try.func89.trans (congrArg some (by kernel_rfl))
  f46 := ⟨Try.f90.name, by decide, Try.func90.trans (congrArg some (by kernel_rfl))⟩
  f47 := Try.func91.trans (congrArg some (by kernel_rfl))
  f48 := Try.func92.trans (congrArg some (by kernel_rfl))
  f49 := ⟨Try.f93.name, by decide, Try.func93.trans (congrArg some (by kernel_rfl))⟩
  f50 := ⟨Try.f94.name, by decide, Try.func94.trans (congrArg some (by kernel_rfl))⟩
  f57 := ⟨Try.f95.name, by decide, Try.func95.trans (congrArg some (by kernel_rfl))⟩
  t0 := Try.underlying0
  a0 := Try.isAgg0
  z0 := Try.sizeOf0
  v0 := Try.zeroValue0
  t3 := Try.underlying3
  a3 := Try.isAgg3
  z3 := Try.sizeOf3
  v3 := Try.zeroValue3
  t4 := Try.underlying4
  a4 := Try.isAgg4
  z4 := Try.sizeOf4
  v4 := Try.zeroValue4
  t5 := Try.underlying5
  a5 := Try.isAgg5
  z5 := Try.sizeOf5
  v5 := Try.zeroValue5
  t9 := Try.underlying9
  a9 := Try.isAgg9
  z9 := Try.sizeOf9
  v9 := Try.zeroValue9
  t22 := Try.underlying69
  a22 := Try.isAgg69
  z22 := Try.sizeOf69
  v22 := Try.zeroValue69
  t25 := Try.underlying104
  a25 := Try.isAgg104
  z25 := Try.sizeOf104
  v25 := Try.zeroValue104
  t39 := Try.underlying122
  a39 := Try.isAgg122
  z39 := Try.sizeOf122
  v39 := Try.zeroValue122
  t45 := Try.underlying127
  a45 := Try.isAgg127
  z45 := Try.sizeOf127
  v45 := Try.zeroValue127
  t46 := Try.underlying128
  a46 := Try.isAgg128
  z46 := Try.sizeOf128
  v46 := Try.zeroValue128
  t50 := Try.underlying132
  a50 := Try.isAgg132
  z50 := Try.sizeOf132
  v50 := Try.zeroValue132
  t53 := Try.underlying135
  a53 := Try.isAgg135
  z53 := Try.sizeOf135
  v53 := Try.zeroValue135
  t55 := Try.underlying137
  a55 := Try.isAgg137
  z55 := Try.sizeOf137
  v55 := Try.zeroValue137
  t66 := Try.underlying138
  a66 := Try.isAgg138
  z66 := Try.sizeOf138
  v66 := Try.zeroValue138
  t70 := Try.underlying142
  a70 := Try.isAgg142
  z70 := Try.sizeOf142
  v70 := Try.zeroValue142
  t76 := Try.underlying144
  a76 := Try.isAgg144
  z76 := Try.sizeOf144
  v76 := Try.zeroValue144
  t77 := Try.underlying145
  a77 := Try.isAgg145
  z77 := Try.sizeOf145
  v77 := Try.zeroValue145 }
end
section
open Go.RowKit Go.Sort

theorem heap_sortedK {w : World} {g n : Nat} {os : Array Obj} {cur : Array Value} {e : TypeId} {fr : Nat × Nat} (F : Array Value) (hb : w.heap[g]? = some (.cells cur e fr)) :
    (grow (putRow id (Sort.ahead w n) g 0 F) os).heap[g]? = some (.cells (putCells id 0 F cur) e fr) := by
  have hg : g < w.heap.size := (Array.getElem?_eq_some_iff.1 hb).1
  rw [heap_grow_old _ _ (by simpa using hg)]
  simp [putRow, mapBlock, Sort.ahead, Array.getElem?_modify, hb, onCells]
theorem grownBy_sortedK {w : World} {g n : Nat} {os : Array Obj} (F : Array Value) : w.grownBy (grow (putRow id (Sort.ahead w n) g 0 F) os) (some g) := by
  refine ⟨rfl, rfl, rfl, by simp, fun k hk hne => ?_⟩
  rw [heap_grow_old _ _ (by simpa using hk)]
  have : g ≠ k := fun e => hne (by rw [e])
  simp [putRow, mapBlock, Sort.ahead, Array.getElem?_modify, this]
theorem take_putCellsK (cur F : Array Value) (h : F.size ≤ cur.size) : (putCells id 0 F cur).toList.take F.size = F.toList := by
  apply List.ext_getElem?
  intro j
  by_cases hj : j < F.size
  · rw [List.getElem?_take_of_lt hj, Array.getElem?_toList]
    simp [putCells, hj, show j < cur.size by omega]
  · rw [List.getElem?_take_eq_none (by omega), List.getElem?_eq_none (by simp; omega)]
end
end Go.Proofs.Ytfdlhhinomjakaa
