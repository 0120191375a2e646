/-
  Texts of this claim, in their build order: OS2.
-/
import Derived.Test.YtjfedpblkejmkaaGreatEve38
import Derived.Test.YtjfedpblkejmkaaGreatEve22
import Derived.Shelf.SlSortCmp.NoneTotal
import Derived.Sort.OwnSorted

/-
  slices.SortFunc at an owned row of states.
-/
namespace Go.Proofs.YtjfedpblkejmkaaGreat
open Go.RowKit Go.Sort
attribute [local go_sem] Oper.semAt_some

def encSt (s : OSt) : List Value := [.int .i64 s.1, .bool s.2]
theorem ltOf_ord : ltOf ordI = ltS := by
  funext a b
  exact ordI_lt a b
theorem swoOrd : SWO (ltOf ordI) := by rw [ltOf_ord]; exact ltS_swo
theorem cmpLaysO (blk off size : Nat) (w : World) : CmpLays Tryz.prog 126 #[] encSt 2 ordI blk off size w :=
fun _ _ _ _ x y => (order_any x y _).mono (by
  rintro e w' ⟨he, rfl⟩
  exact ⟨he, 0, _, by rw [alloc_eq_grow, alloc_eq_grow, grow_grow]; rfl⟩)
theorem flat_st (l : List OSt) : (flatK encSt 2 l.toArray).toList = scells l := by
  apply List.ext_getElem?
  intro i
  have hs : (flatK encSt 2 l.toArray).size = l.length * 2 := by rw [size_flatK]; simp
  by_cases h : i < l.length * 2
  · rw [scells_get l i h, Array.getElem?_toList]
    have h1 := get_flatK encSt 2 l.toArray i (by simpa using h)
    rw [getElem!_pos _ i (by rw [hs]; exact h)] at h1
    rw [Array.getElem?_eq_getElem (by rw [hs]; exact h), h1]
    have hk : i / 2 < l.length := by omega
    have e : l.toArray[i / 2]! = sg l (i / 2) := by
      rw [getElem!_pos _ _ (by simpa using hk)]
      unfold sg
      rw [List.getD_eq_getElem?_getD, List.getElem?_eq_getElem hk]
      simp
    rw [e]
    unfold osts
    by_cases h2 : i % 2 = 0
    · rw [if_pos h2, h2]; rfl
    · rw [if_neg h2, show i % 2 = 1 by omega]; rfl
  · rw [List.getElem?_eq_none (by rw [Array.length_toList, hs]; omega), List.getElem?_eq_none (by rw [scells_len]; omega)]
theorem holdsK_of_block {w : World} {g : Nat} {cur : Array Value} {e : TypeId} {l : List OSt} (hb : w.heap[g]? = some (.cells cur e (0, 0))) (ht : cur.toList.take (l.length * 2) = scells l) : HoldsK encSt 2 w g 0 l.toArray := by
  intro j hj
  have hj' : j < l.length * 2 := by simpa using hj
  refine ⟨?_, by simp [World.frozen?, hb]⟩
  have h1 : (cur.toList.take (l.length * 2))[j]? = (flatK encSt 2 l.toArray).toList[j]? := by rw [ht, flat_st]
  rw [List.getElem?_take_of_lt hj', Array.getElem?_toList, Array.getElem?_toList, Array.getElem?_eq_getElem hj] at h1
  simp only [World.cell?, hb, Nat.zero_add]
  simp only [Option.isSome_none, Bool.false_eq_true, if_false]
  rw [h1, getElem!_pos _ j hj]
  rfl
theorem heap_sortedK {w : World} {g n : Nat} {os : Array Obj} {cur : Array Value} {e : TypeId} {fr : Nat × Nat} (F : Array Value) (hb : w.heap[g]? = some (.cells cur e fr)) :
    (grow (putRow id (Sort.ahead w n) g 0 F) os).heap[g]? = some (.cells (putCells id 0 F cur) e fr) := by
  have hg : g < w.heap.size := (Array.getElem?_eq_some_iff.1 hb).1
  rw [heap_grow_old _ _ (by simpa using hg)]
  simp [putRow, mapBlock, Sort.ahead, Array.getElem?_modify, hb, onCells]
theorem grownBy_sortedK {w : World} {g n : Nat} {os : Array Obj} (F : Array Value) : w.grownBy (grow (putRow id (Sort.ahead w n) g 0 F) os) (some g) := by
  refine ⟨rfl, rfl, rfl, by simp, fun k hk hne => ?_⟩
  rw [heap_grow_old _ _ (by simpa using hk)]
  have : g ≠ k := fun e => hne (by rw [e])
  simp [putRow, mapBlock, Sort.ahead, Array.getElem?_modify, this]
theorem take_putCellsK (cur F : Array Value) (h : F.size ≤ cur.size) : (putCells id 0 F cur).toList.take F.size = F.toList := by
  apply List.ext_getElem?
  intro j
  by_cases hj : j < F.size
  · rw [List.getElem?_take_of_lt hj, Array.getElem?_toList]
    simp [putCells, hj, show j < cur.size by omega]
  · rw [List.getElem?_take_eq_none (by omega), List.getElem?_eq_none (by simp; omega)]

theorem oSort_any (l : List OSt) (v : Value) (n0 : Nat) (w : World) (hown : w.ownsRow n0 stT 2 v l.length (scells l)) (hl : l.length ≤ 100000) (hn : l.Nodup) :
    Calls Tryz.prog 125 #[v, .func (.func 126) #[] #[]] w fun e w' => e = .returned (.tuple #[]) ∧ ∃ l' : List OSt, SrtS l' ∧ (∀ x, x ∈ l' ↔ x ∈ l) ∧ l'.length = l.length ∧ w'.ownsRow n0 stT 2 v l.length (scells l') ∧ w.grownBy w' v.ownBlock := by
  rcases hown.2 with ⟨rfl, h0⟩ | ⟨g, cap, cur, rfl, hbase, hb, h1, h2, h3, h4⟩
  · have hnil : l = [] := List.length_eq_zero_iff.1 h0
    subst hnil
    refine (show Calls Tryz.prog 125 _ w _ from AnyF.slices_SortFunc_none sortStates none 0 (.func (.func 126) #[] #[]) w).mono ?_
    rintro e w' ⟨rfl, rfl⟩
    exact ⟨rfl, [], List.Pairwise.nil, fun x => Iff.rfl, rfl, hown, World.grownBy.refl _ _⟩
  · have eg : ∀ args w, (callFunc 126 args).run Tryz.prog w = .ok (.enter 126 args) w := enters_of Tryz.func126 (by kernel_rfl) rfl
    have hH : HoldsK encSt 2 w g 0 l.toArray := holdsK_of_block hb h4
    have hcon := AnyQ.slices_SortFunc sortStates 2 Tryz.isAgg46 Tryz.sizeOf46 encSt (fun _ => rfl) (fun x v hv => by simp [encSt] at hv; rcases hv with rfl | rfl <;> rfl) ordI swoOrd 126 #[] g 0 cap l.toArray w eg (cmpLaysO g 0 l.toArray.size w) hH (Array.getElem?_eq_some_iff.1 hb).1 (by simp; omega)
    refine (show Calls Tryz.prog 125 #[.slice (some ⟨g, 0, none⟩) l.length cap, .func (.func 126) #[] #[]] w _ from hcon).mono ?_
    rintro e w' ⟨rfl, d', n, os, hp, hs, rfl⟩
    rw [ltOf_ord] at hs
    obtain ⟨s1, s2, s3⟩ := srt_perm (d := l.toArray) (d' := d') (by simpa using hn) hp hs
    have hlen : d'.toList.length = l.length := by rw [Array.length_toList, s3]; simp
    have hF : (flatK encSt 2 d').toList = scells d'.toList := flat_st d'.toList
    have hFs : (flatK encSt 2 d').size = l.length * 2 := by rw [size_flatK, ← hlen, Array.length_toList]
    refine ⟨rfl, d'.toList, s1, fun x => by simpa using s2 x, hlen, ⟨by rw [scells_len, hlen], .inr ⟨g, cap, _, rfl, hbase, heap_sortedK _ hb, h1, h2, by simp [putCells, h3], ?_⟩⟩, grownBy_sortedK _⟩
    rw [← hF, ← hFs]
    refine take_putCellsK cur _ ?_
    rw [hFs, h3]
    exact Nat.mul_le_mul_right _ h1

end Go.Proofs.YtjfedpblkejmkaaGreat

