/-
  Texts of this claim, in their build order: OS1 OP17 OS2.
-/
import Derived.Test.YtbpcapcgbnbknaaGreatOne32
import Derived.Shelf.SlSortCmp.WholeK
import Derived.Shelf.SlGeneric
import Derived.Test.YtbpcapcgbnbknaaGreatOne20
import Derived.Sort.Statements
import Derived.Test.YtbpcapcgbnbknaaGreatOne27
import Derived.Shelf.SlSortCmp.NoneTotal
import Derived.Sort.OwnSorted

namespace Go.Proofs.YtbpcapcgbnbknaaGreat
section
open Go.Shelf
def sortStates_ren : Go.Shelf.Ren := ⟨fun | 6 => 91 | 15 => 134 | 14 => 133 | 28 => 164 | 29 => 165 | 20 => 156 | 21 => 157 | 22 => 158 | 23 => 159 | 24 => 160 | 25 => 161 | 26 => 162 | 27 => 163 | 46 => 193 | 47 => 194 | 48 => 195 | 49 => 196 | 50 => 197 | 57 => 203 | n => n, fun | 22 => 67 | 24 => 53 | 25 => 165 | 3 => 3 | 39 => 203 | 0 => 0 | 53 => 231 | 55 => 233 | 4 => 4 | 46 => 224 | 45 => 223 | 50 => 228 | 5 => 5 | 9 => 9 | 66 => 252 | 70 => 256 | 76 => 261 | 77 => 46 | n => n, fun | n => n⟩
theorem sortStates : Go.Proofs.SlLaysF0.n6 Tryz.prog sortStates_ren := {
  mixed := by kernel_rfl
  f6 := ⟨Tryz.f91.name, by decide, Tryz.func91.trans (congrArg some (by kernel_rfl))⟩
  f14 := ⟨Tryz.f133.name, by decide, Tryz.func133.trans (congrArg some (by kernel_rfl))⟩
  f15 := Tryz.func134.trans (congrArg some (by kernel_rfl))
  f20 := ⟨Tryz.f156.name, by decide, Tryz.func156.trans (congrArg some (by kernel_rfl))⟩
  f21 := ⟨Tryz.f157.name, by decide, Tryz.func157.trans (congrArg some (by kernel_rfl))⟩
  f22 := ⟨Tryz.f158.name, by decide, Tryz.func158.trans (congrArg some (by kernel_rfl))⟩
  f23 := ⟨Tryz.f159.name, by decide, Tryz.func159.trans (congrArg some (by kernel_rfl))⟩
  f24 := ⟨Tryz.f160.name, by decide, Tryz.func160.trans (congrArg some (by kernel_rfl))⟩
  f25 := ⟨Tryz.f161.name, by decide, Tryz.func161.trans (congrArg some (by kernel_rfl))⟩
  f26 := ⟨Tryz.f162.name, by decide, Tryz.func162.trans (congrArg some (by kernel_rfl))⟩
  f27 := ⟨Tryz.f163.name, by decide, Tryz.func163.trans (congrArg some (by kernel_rfl))⟩
  f28 := Tryz.func164.trans (congrArg some (by kernel_rfl))
  f29 := Tryz.func165.trans (congrArg some (by kernel_rfl))
  f46 := ⟨Tryz.f193.name, by decide, Tryz.func193.trans (congrArg some (by kernel_rfl))⟩
  f47 := Tryz.func194.trans (congrArg some (by kernel_rfl))
  f48 := Tryz.func195.trans (congrArg some (by kernel_rfl))
  f49 := ⟨Tryz.f196.name, by decide, Tryz.func196.trans (congrArg some (by kernel_rfl))⟩
  f50 := ⟨Tryz.f197.name, by decide, Tryz.func197.trans (congrArg some (by kernel_rfl))⟩
  f57 := ⟨Tryz.f203.name, by decide, Tryz.func203.trans (congrArg some (by kernel_rfl))⟩
  t0 := Tryz.underlying0
  a0 := Tryz.isAgg0
  z0 := Tryz.sizeOf0
  v0 := Tryz.zeroValue0
  t3 := Tryz.underlying3
  a3 := Tryz.isAgg3
  z3 := Tryz.sizeOf3
  v3 := Tryz.zeroValue3
  t4 := Tryz.underlying4
  a4 := Tryz.isAgg4
  z4 := Tryz.sizeOf4
  v4 := Tryz.zeroValue4
  t5 := Tryz.underlying5
  a5 := Tryz.isAgg5
  z5 := Tryz.sizeOf5
  v5 := Tryz.zeroValue5
  t9 := Tryz.underlying9
  a9 := Tryz.isAgg9
  z9 := Tryz.sizeOf9
  v9 := Tryz.zeroValue9
  t22 := Tryz.underlying67
  a22 := Tryz.isAgg67
  z22 := Tryz.sizeOf67
  v22 := Tryz.zeroValue67
  t25 := Tryz.underlying165
  a25 := Tryz.isAgg165
  z25 := Tryz.sizeOf165
  v25 := Tryz.zeroValue165
  t39 := Tryz.underlying203
  a39 := Tryz.isAgg203
  z39 := Tryz.sizeOf203
  v39 := Tryz.zeroValue203
  t45 := Tryz.underlying223
  a45 := Tryz.isAgg223
  z45 := Tryz.sizeOf223
  v45 := Tryz.zeroValue223
  t46 := Tryz.underlying224
  a46 := Tryz.isAgg224
  z46 := Tryz.sizeOf224
  v46 := Tryz.zeroValue224
  t50 := Tryz.underlying228
  a50 := Tryz.isAgg228
  z50 := Tryz.sizeOf228
  v50 := Tryz.zeroValue228
  t53 := Tryz.underlying231
  a53 := Tryz.isAgg231
  z53 := Tryz.sizeOf231
  v53 := Tryz.zeroValue231
  t55 := Tryz.underlying233
  a55 := Tryz.isAgg233
  z55 := Tryz.sizeOf233
  v55 := Tryz.zeroValue233
  t66 := Tryz.underlying252
  a66 := Tryz.isAgg252
  z66 := Tryz.sizeOf252
  v66 := Tryz.zeroValue252
  t70 := Tryz.underlying256
  a70 := Tryz.isAgg256
  z70 := Tryz.sizeOf256
  v70 := Tryz.zeroValue256
  t76 := Tryz.underlying261
  a76 := Tryz.isAgg261
  z76 := Tryz.sizeOf261
  v76 := Tryz.zeroValue261
  t77 := Tryz.underlying46
  a77 := Tryz.isAgg46
  z77 := Tryz.sizeOf46
  v77 := Tryz.zeroValue46 }
end
section
open Go.RowKit

theorem srt_perm {d d' : Array OSt} (hn : d.toList.Nodup) (hp : Sort.PermIn 0 d.size d d') (hs : Sort.SortedIn ltS 0 d.size d') : SrtS d'.toList ∧ (∀ x, x ∈ d'.toList ↔ x ∈ d.toList) ∧ d'.size = d.size := by
  obtain ⟨h1, -, h3⟩ := hp
  rw [Array.extract_eq_self_of_le (Nat.le_refl _), ← h1, Array.extract_eq_self_of_le (Nat.le_refl _)] at h3
  refine ⟨?_, fun x => h3.mem_iff, h1⟩
  have hn' : d'.toList.Nodup := h3.symm.nodup hn
  unfold SrtS
  rw [List.pairwise_iff_getElem]
  intro i j hi hj hij
  have hsz : d'.toList.length = d'.size := Array.length_toList
  have h := hs i j (Nat.zero_le _) hij (by omega)
  rw [getElem!_pos _ j (by omega), getElem!_pos _ i (by omega)] at h
  have hne : d'.toList[i] ≠ d'.toList[j] := (List.pairwise_iff_getElem.1 hn') i j hi hj hij
  rw [Array.getElem_toList, Array.getElem_toList] at hne ⊢
  rcases ltS_tri d'[i] d'[j] with e | e | e
  · exact e
  · exact absurd e hne
  · rw [e] at h; cases h
theorem ltS_swo : Sort.SWO ltS where
  irrefl := ltS_irr
  trans _ _ _ := ltS_trans
  ntrans x y z h1 h2 := by
    cases h : ltS x z
    · rfl
    · rcases ltS_tri y z with e | e | e
      · rw [e] at h2; cases h2
      · subst e; rw [h] at h1; cases h1
      · rcases ltS_tri x y with f | f | f
        · rw [f] at h1; cases h1
        · subst f; rw [ltS_asym e] at h; cases h
        · have := ltS_trans e f
          rw [ltS_asym this] at h; cases h
end
section
open Go.RowKit Go.Sort
attribute [local go_sem] Oper.semAt_some

def encSt (s : OSt) : List Value := [.int .i64 s.1, .bool s.2]
theorem ltOf_ord : ltOf ordI = ltS := by
  funext a b
  exact ordI_lt a b
theorem swoOrd : SWO (ltOf ordI) := by rw [ltOf_ord]; exact ltS_swo
theorem cmpLaysO (blk off size : Nat) (w : World) : CmpLays Tryz.prog 92 #[] encSt 2 ordI blk off size w :=
fun _ _ _ _ x y => (order_any x y _).mono (by
  rintro e w' ⟨he, rfl⟩
  exact ⟨he, 0, _, by rw [alloc_eq_grow, alloc_eq_grow, grow_grow]; rfl⟩)
theorem flat_st (l : List OSt) : (flatK encSt 2 l.toArray).toList = scells l := by
  apply List.ext_getElem?
  intro i
  have hs : (flatK encSt 2 l.toArray).size = l.length * 2 := by rw [size_flatK]; simp
  by_cases h : i < l.length * 2
  · rw [scells_get l i h, Array.getElem?_toList]
    have h1 := get_flatK encSt 2 l.toArray i (by simpa using h)
    rw [getElem!_pos _ i (by rw [hs]; exact h)] at h1
    rw [Array.getElem?_eq_getElem (by rw [hs]; exact h), h1]
    have hk : i / 2 < l.length := by omega
    have e : l.toArray[i / 2]! = sg l (i / 2) := by
      rw [getElem!_pos _ _ (by simpa using hk)]
      unfold sg
      rw [List.getD_eq_getElem?_getD, List.getElem?_eq_getElem hk]
      simp
    rw [e]
    unfold osts
    by_cases h2 : i % 2 = 0
    · rw [if_pos h2, h2]; rfl
    · rw [if_neg h2, show i % 2 = 1 by omega]; rfl
  · rw [List.getElem?_eq_none (by rw [Array.length_toList, hs]; omega), List.getElem?_eq_none (by rw [scells_len]; omega)]
theorem holdsK_of_block {w : World} {g : Nat} {cur : Array Value} {e : TypeId} {l : List OSt} (hb : w.heap[g]? = some (.cells cur e (0, 0))) (ht : cur.toList.take (l.length * 2) = scells l) : HoldsK encSt 2 w g 0 l.toArray := by
  intro j hj
  have hj' : j < l.length * 2 := by simpa using hj
  refine ⟨?_, by simp [World.frozen?, hb]⟩
  have h1 : (cur.toList.take (l.length * 2))[j]? = (flatK encSt 2 l.toArray).toList[j]? := by rw [ht, flat_st]
  rw [List.getElem?_take_of_lt hj', Array.getElem?_toList, Array.getElem?_toList, Array.getElem?_eq_getElem hj] at h1
  simp only [World.cell?, hb, Nat.zero_add]
  simp only [Option.isSome_none, Bool.false_eq_true, if_false]
  rw [h1, getElem!_pos _ j hj]
  rfl
theorem heap_sortedK {w : World} {g n : Nat} {os : Array Obj} {cur : Array Value} {e : TypeId} {fr : Nat × Nat} (F : Array Value) (hb : w.heap[g]? = some (.cells cur e fr)) :
    (grow (putRow id (Sort.ahead w n) g 0 F) os).heap[g]? = some (.cells (putCells id 0 F cur) e fr) := by
  have hg : g < w.heap.size := (Array.getElem?_eq_some_iff.1 hb).1
  rw [heap_grow_old _ _ (by simpa using hg)]
  simp [putRow, mapBlock, Sort.ahead, Array.getElem?_modify, hb, onCells]
theorem grownBy_sortedK {w : World} {g n : Nat} {os : Array Obj} (F : Array Value) : w.grownBy (grow (putRow id (Sort.ahead w n) g 0 F) os) (some g) := by
  refine ⟨rfl, rfl, rfl, by simp, fun k hk hne => ?_⟩
  rw [heap_grow_old _ _ (by simpa using hk)]
  have : g ≠ k := fun e => hne (by rw [e])
  simp [putRow, mapBlock, Sort.ahead, Array.getElem?_modify, this]
theorem take_putCellsK (cur F : Array Value) (h : F.size ≤ cur.size) : (putCells id 0 F cur).toList.take F.size = F.toList := by
  apply List.ext_getElem?
  intro j
  by_cases hj : j < F.size
  · rw [List.getElem?_take_of_lt hj, Array.getElem?_toList]
    simp [putCells, hj, show j < cur.size by omega]
  · rw [List.getElem?_take_eq_none (by omega), List.getElem?_eq_none (by simp; omega)]

theorem oSort_any (l : List OSt) (v : Value) (n0 : Nat) (w : World) (hown : w.ownsRow n0 stT 2 v l.length (scells l)) (hl : l.length ≤ 100000) (hn : l.Nodup) :
    Calls Tryz.prog 91 #[v, .func (.func 92) #[] #[]] w fun e w' => e = .returned (.tuple #[]) ∧ ∃ l' : List OSt, SrtS l' ∧ (∀ x, x ∈ l' ↔ x ∈ l) ∧ l'.length = l.length ∧ w'.ownsRow n0 stT 2 v l.length (scells l') ∧ w.grownBy w' v.ownBlock := by
  rcases hown.2 with ⟨rfl, h0⟩ | ⟨g, cap, cur, rfl, hbase, hb, h1, h2, h3, h4⟩
  · have hnil : l = [] := List.length_eq_zero_iff.1 h0
    subst hnil
    refine (show Calls Tryz.prog 91 _ w _ from AnyF.slices_SortFunc_none sortStates none 0 (.func (.func 92) #[] #[]) w).mono ?_
    rintro e w' ⟨rfl, rfl⟩
    exact ⟨rfl, [], List.Pairwise.nil, fun x => Iff.rfl, rfl, hown, World.grownBy.refl _ _⟩
  · have eg : ∀ args w, (callFunc 92 args).run Tryz.prog w = .ok (.enter 92 args) w := enters_of Tryz.func92 (by kernel_rfl) rfl
    have hH : HoldsK encSt 2 w g 0 l.toArray := holdsK_of_block hb h4
    have hcon := AnyQ.slices_SortFunc sortStates 2 Tryz.isAgg53 Tryz.sizeOf53 encSt (fun _ => rfl) (fun x v hv => by simp [encSt] at hv; rcases hv with rfl | rfl <;> rfl) ordI swoOrd 92 #[] g 0 cap l.toArray w eg (cmpLaysO g 0 l.toArray.size w) hH (Array.getElem?_eq_some_iff.1 hb).1 (by simp; omega)
    refine (show Calls Tryz.prog 91 #[.slice (some ⟨g, 0, none⟩) l.length cap, .func (.func 92) #[] #[]] w _ from hcon).mono ?_
    rintro e w' ⟨rfl, d', n, os, hp, hs, rfl⟩
    rw [ltOf_ord] at hs
    obtain ⟨s1, s2, s3⟩ := srt_perm (d := l.toArray) (d' := d') (by simpa using hn) hp hs
    have hlen : d'.toList.length = l.length := by rw [Array.length_toList, s3]; simp
    have hF : (flatK encSt 2 d').toList = scells d'.toList := flat_st d'.toList
    have hFs : (flatK encSt 2 d').size = l.length * 2 := by rw [size_flatK, ← hlen, Array.length_toList]
    refine ⟨rfl, d'.toList, s1, fun x => by simpa using s2 x, hlen, ⟨by rw [scells_len, hlen], .inr ⟨g, cap, _, rfl, hbase, heap_sortedK _ hb, h1, h2, by simp [putCells, h3], ?_⟩⟩, grownBy_sortedK _⟩
    rw [← hF, ← hFs]
    refine take_putCellsK cur _ ?_
    rw [hFs, h3]
    exact Nat.mul_le_mul_right _ h1
end
end Go.Proofs.YtbpcapcgbnbknaaGreat
