/-
  Texts of this claim, in their build order: BS7.
-/
import Derived.Test.YtfdlhhinomjakaaHel36
import Derived.Test.YtfdlhhinomjakaaHel40
import Derived.Test.YtfdlhhinomjakaaHel37
import Derived.Shelf.SlSortCmp.NoneTotal
import Derived.Sort.OwnSorted
import Derived.Test.YtfdlhhinomjakaaHel0

namespace Go.Proofs.Ytfdlhhinomjakaa
section
open Go.RowKit Go.Sort
attribute [local go_sem] Oper.semAt_some

def n4 (x : List Int) : List Int := [gi x 0, gi x 1, gi x 2, gi x 3]
theorem n4_self {x : List Int} (h : x.length = 4) : n4 x = x := by
  match x, h with
  | [a, b, c, d], _ => rfl
def ordH (x y : List Int) : Int := cmpL (n4 x) (n4 y)
def encH (x : List Int) : List Value := [.int .i64 (gi x 0), .int .i64 (gi x 1), .int .i64 (gi x 2), .int .i64 (gi x 3)]
theorem swoH : SWO (ltOf ordH) where
  irrefl x := by unfold ltOf ordH; rw [cmpL_self]; rfl
  trans x y z h1 h2 := by
    unfold ltOf ordH at *
    exact decide_eq_true (cmpL_trans (of_decide_eq_true h1) (of_decide_eq_true h2))
  ntrans x y z h1 h2 := by
    unfold ltOf ordH at *
    have a1 := of_decide_eq_false h1
    have a2 := of_decide_eq_false h2
    refine decide_eq_false fun h => ?_
    have b1 : cmpL (n4 y) (n4 x) ≤ 0 := by rw [cmpL_swap]; omega
    have b2 : cmpL (n4 z) (n4 y) ≤ 0 := by rw [cmpL_swap]; omega
    have b3 := cmpL_le b2 b1
    rw [cmpL_swap] at b3
    omega

set_option maxHeartbeats 1600000 in
set_option maxRecDepth 100000 in
theorem hcmp_any (x y : List Int) (w : World) :
    Calls Try.prog 55 #[.agg (l4 x), .agg (l4 y)] w fun e w' => e = .returned (.int .i64 (ordH x y)) ∧ w' = ((w.alloc (.cells (l4 x) 72)).alloc (.cells (l4 y) 72)).drew := by
  have HC := zH (fun (W : World) h1 h2 => slCompare_any (n4 x) (n4 y) (some ⟨w.heap.size, 0, none⟩) (some ⟨w.heap.size + 1, 0, none⟩) 4 4 W (by show 4 ≤ _; omega) (by show 4 ≤ _; omega) h1 h2)
  have HR1 : Hid (Reads ((w.alloc (.cells (l4 x) 72)).alloc (.cells (l4 y) 72)).drew (some ⟨w.heap.size, 0, none⟩) 4 (ints (n4 x))) := by
    refine zH (((Reads.fresh w _ _ _ _ 4 rfl (fun i hi => ?_)).to (bAlloc (bSelf _) _)).to (bSelf _).drew)
    match i, hi with
    | 0, _ => rfl
    | 1, _ => rfl
    | 2, _ => rfl
    | 3, _ => rfl
  have HR2 : Hid (Reads ((w.alloc (.cells (l4 x) 72)).alloc (.cells (l4 y) 72)).drew (some ⟨w.heap.size + 1, 0, none⟩) 4 (ints (n4 y))) := by
    refine zH ((Reads.fresh _ _ _ _ _ 4 (by simp) (fun i hi => ?_)).to (bSelf _).drew)
    match i, hi with
    | 0, _ => rfl
    | 1, _ => rfl
    | 2, _ => rfl
    | 3, _ => rfl
  have HO : Hid (ordH x y = cmpL (n4 x) (n4 y)) := zH rfl
  rw [show (n4 x).length = 4 from rfl, show (n4 y).length = 4 from rfl] at HC
  rw [HO.out]
  go_enter Try.func55, Try.ntmps55
  go_wp2_with fail
  obtain ⟨W, hW⟩ : ∃ W, (w.alloc (.cells (l4 x) 72)).alloc (.cells (l4 y) 72) = W := ⟨_, rfl⟩
  have HW := zH hW
  rw [hW] at HR1 HR2
  clear hW
  have hw := HW.out
  rw [hw]
  clear hw
  refine wp_region_quiet_all (fun w' => w' = W.drew) (by kernel_rfl) (by kernel_rfl) rfl ?_
  refine WQ.out ?_
  repeat (first | (refine WQ_no (by rfl) ?_; (simp only [Act.put, zzT, zzO, zzS])) | (refine WQ_yes (by rfl) ?_; apply Exists.intro; refine ⟨fun w1 hb1 => ?_, ?_⟩; (focus (((have hb2 := hb1); have hb1 := zH hb1; go_simp); (try (go_bits; try go_simp)); (try (rw [if_pos (by omega)]; try go_simp)); (first | done | ((go_at_call 38; subst hb2; refine (HC.out _ HR1.out HR2.out).mono ?_; rintro e w' ⟨rfl, rfl⟩; exact ⟨rfl, rfl⟩)) | (with_reducible rfl) | exact rfl))); (simp only [Act.put, zzT, zzO, zzS])))
  refine WQ_nil ?_
  intro w1 hb1
  have hb1 := zH hb1
  have hb2 := hb1.out
  go_wp2_with fail
  subst hb2
  go_ret
  exact ⟨rfl, by rw [HW.out]⟩
theorem cmpLaysH (blk off size : Nat) (w : World) : CmpLays Try.prog 55 #[] encH 4 ordH blk off size w :=
fun _ _ _ _ x y => (hcmp_any x y _).mono (by
  rintro e w' ⟨he, rfl⟩
  refine ⟨he, 1, #[.cells (l4 x) 72, .cells (l4 y) 72], ?_⟩
  rw [alloc_eq_grow, alloc_eq_grow, grow_grow]
  rfl)

theorem flat_h (l : List (List Int)) : (flatK encH 4 l.toArray).toList = hcells l := by
  apply List.ext_getElem?
  intro i
  have hs : (flatK encH 4 l.toArray).size = l.length * 4 := by rw [size_flatK]; simp
  by_cases h : i < l.length * 4
  · rw [hcells_get l i h, Array.getElem?_toList]
    have h1 := get_flatK encH 4 l.toArray i (by simpa using h)
    rw [getElem!_pos _ i (by rw [hs]; exact h)] at h1
    rw [Array.getElem?_eq_getElem (by rw [hs]; exact h), h1]
    have hk : i / 4 < l.length := by omega
    have e : l.toArray[i / 4]! = hg l (i / 4) := by
      rw [getElem!_pos _ _ (by simpa using hk), hg_lt hk]
      simp
    rw [e]
    unfold hsts
    have hm : i % 4 < 4 := Nat.mod_lt _ (by omega)
    match i % 4, hm with
    | 0, _ => rfl
    | 1, _ => rfl
    | 2, _ => rfl
    | 3, _ => rfl
  · rw [List.getElem?_eq_none (by rw [Array.length_toList, hs]; omega), List.getElem?_eq_none (by rw [hcells_len]; omega)]
theorem holdsH_of_block {w : World} {g : Nat} {cur : Array Value} {e : TypeId} {l : List (List Int)} (hb : w.heap[g]? = some (.cells cur e (0, 0))) (ht : cur.toList.take (l.length * 4) = hcells l) : HoldsK encH 4 w g 0 l.toArray := by
  intro j hj
  have hj' : j < l.length * 4 := by simpa using hj
  refine ⟨?_, by simp [World.frozen?, hb]⟩
  have h1 : (cur.toList.take (l.length * 4))[j]? = (flatK encH 4 l.toArray).toList[j]? := by rw [ht, flat_h]
  rw [List.getElem?_take_of_lt hj', Array.getElem?_toList, Array.getElem?_toList, Array.getElem?_eq_getElem hj] at h1
  simp only [World.cell?, hb, Nat.zero_add]
  simp only [Option.isSome_none, Bool.false_eq_true, if_false]
  rw [h1, getElem!_pos _ j hj]
  rfl
/-- A list of states in order. -/
def SrtH (l : List (List Int)) : Prop := l.Pairwise (fun a b => cmpL a b < 0)
theorem srtH_perm {d d' : Array (List Int)} (h4 : ∀ a ∈ d.toList, a.length = 4) (hn : d.toList.Nodup) (hp : Sort.PermIn 0 d.size d d') (hs : Sort.SortedIn (ltOf ordH) 0 d.size d') : SrtH d'.toList ∧ (∀ x, x ∈ d'.toList ↔ x ∈ d.toList) ∧ d'.size = d.size := by
  obtain ⟨h1, -, h3⟩ := hp
  rw [Array.extract_eq_self_of_le (Nat.le_refl _), ← h1, Array.extract_eq_self_of_le (Nat.le_refl _)] at h3
  refine ⟨?_, fun x => h3.mem_iff, h1⟩
  have hn' : d'.toList.Nodup := h3.symm.nodup hn
  have h4' : ∀ a ∈ d'.toList, a.length = 4 := fun a ha => h4 a (h3.mem_iff.1 ha)
  unfold SrtH
  rw [List.pairwise_iff_getElem]
  intro i j hi hj hij
  have hi' : i < d'.size := by simpa using hi
  have hj' : j < d'.size := by simpa using hj
  have h5 := hs i j (Nat.zero_le _) hij (by omega)
  rw [getElem!_pos _ i hi', getElem!_pos _ j hj'] at h5
  unfold ltOf ordH at h5
  have h6 := of_decide_eq_false h5
  rw [n4_self (h4' _ (Array.getElem_mem_toList hj')), n4_self (h4' _ (Array.getElem_mem_toList hi'))] at h6
  rw [Array.getElem_toList, Array.getElem_toList]
  rcases Int.lt_trichotomy (cmpL d'[i] d'[j]) 0 with h | h | h
  · exact h
  · have e := cmpL_zero h
    exact absurd e (fun e => by
      have := (List.pairwise_iff_getElem.1 hn') i j hi hj hij
      rw [Array.getElem_toList, Array.getElem_toList] at this
      exact this e)
  · rw [cmpL_swap] at h6; omega

theorem hSort_any (l : List (List Int)) (v : Value) (n0 : Nat) (w : World) (hown : w.ownsRow n0 stH 4 v l.length (hcells l)) (hl : l.length ≤ 100000) (hn : l.Nodup) (hq4 : ∀ a ∈ l, a.length = 4) :
    Calls Try.prog 54 #[v, .func (.func 55) #[] #[]] w fun e w' => e = .returned (.tuple #[]) ∧ ∃ l' : List (List Int), SrtH l' ∧ (∀ x, x ∈ l' ↔ x ∈ l) ∧ l'.length = l.length ∧ w'.ownsRow n0 stH 4 v l.length (hcells l') ∧ w.grownBy w' v.ownBlock := by
  rcases hown.2 with ⟨rfl, h0⟩ | ⟨g, cap, cur, rfl, hbase, hb, h1, h2, h3, h4⟩
  · have hnil : l = [] := List.length_eq_zero_iff.1 h0
    subst hnil
    refine (show Calls Try.prog 54 _ w _ from AnyF.slices_SortFunc_none sortStatesH none 0 (.func (.func 55) #[] #[]) w).mono ?_
    rintro e w' ⟨rfl, rfl⟩
    exact ⟨rfl, [], List.Pairwise.nil, fun x => Iff.rfl, rfl, hown, World.grownBy.refl _ _⟩
  · have eg : ∀ args w, (callFunc 55 args).run Try.prog w = .ok (.enter 55 args) w := enters_of Try.func55 (by kernel_rfl) rfl
    have hH : HoldsK encH 4 w g 0 l.toArray := holdsH_of_block hb h4
    have hcon := AnyQ.slices_SortFunc sortStatesH 4 Try.isAgg72 Try.sizeOf72 encH (fun _ => rfl) (fun x v hv => by simp [encH] at hv; rcases hv with rfl | rfl | rfl | rfl <;> rfl) ordH swoH 55 #[] g 0 cap l.toArray w eg (cmpLaysH g 0 l.toArray.size w) hH (Array.getElem?_eq_some_iff.1 hb).1 (by simp; omega)
    refine (show Calls Try.prog 54 #[.slice (some ⟨g, 0, none⟩) l.length cap, .func (.func 55) #[] #[]] w _ from hcon).mono ?_
    rintro e w' ⟨rfl, d', n, os, hp, hs, rfl⟩
    obtain ⟨s1, s2, s3⟩ := srtH_perm (d := l.toArray) (d' := d') (by simpa using hq4) (by simpa using hn) hp hs
    have hlen : d'.toList.length = l.length := by rw [Array.length_toList, s3]; simp
    have hF : (flatK encH 4 d').toList = hcells d'.toList := flat_h d'.toList
    have hFs : (flatK encH 4 d').size = l.length * 4 := by rw [size_flatK, ← hlen, Array.length_toList]
    refine ⟨rfl, d'.toList, s1, fun x => by simpa using s2 x, hlen, ⟨by rw [hcells_len, hlen], .inr ⟨g, cap, _, rfl, hbase, heap_sortedK _ hb, h1, h2, by simp [putCells, h3], ?_⟩⟩, grownBy_sortedK _⟩
    rw [← hF, ← hFs]
    refine take_putCellsK cur _ ?_
    rw [hFs, h3]
    exact Nat.mul_le_mul_right _ h1
end
end Go.Proofs.Ytfdlhhinomjakaa
