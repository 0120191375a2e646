/-
  The arguments of a statement, opened: a test; a slice of whole numbers.
-/
import Derived.Test.YtjieojkfpoiabaaE6
import Derived.Test.YtjieojkfpoiabaaRows
import Derived.ProofKit
import Derived.OpenShut
import Derived.ShutString
import Derived.ChangeOld
namespace Go.Proofs.Ytjieojkfpoiabaa
open Go.ChangeShapes Go.WideShapes Go.ChangeAt Go.RowKit

theorem own : ownKnob Try.prog.godebug = none := by kernel_rfl
theorem laidOut : laidOutB Try.prog = true := by kernel_rfl

theorem cell_int {P : Program} {w : World} {r : Reach} {base : Nat} {t : TypeId} {v : Value} (ht : P.underlying t = some (.int .i64)) (h : Cell.okWide P w r base t v) : ∃ n, v = .int .i64 n := by
  simp only [Cell.okWide, ht] at h
  cases v <;> simp_all [Cell.ok]
theorem cell_bool {P : Program} {w : World} {r : Reach} {base : Nat} {t : TypeId} {v : Value} (ht : P.underlying t = some .bool) (h : Cell.okWide P w r base t v) : ∃ b, v = .bool b := by
  simp only [Cell.okWide, ht] at h
  cases v <;> simp_all [Cell.ok]
theorem row_at {P : Program} {w : World} {r : Reach} {base : Nat} {t : TypeId} {cs : Array Value} (ts : List TypeId) (ht : P.cellTypes P.depth t = some ts) (h : Row.okWide P w r base t cs) {i : Nat} {v : Value} (hi : i < ts.length) (hv : cs[i]? = some v) :
    ∃ u, ts[i]? = some u ∧ Cell.okWide P w r base u v := by
  obtain ⟨ts', ht', _, hc⟩ := h
  rw [ht] at ht'
  cases ht'
  obtain ⟨u, hu, hk⟩ := hc i v hv
  rw [Nat.mod_eq_of_lt hi] at hu
  exact ⟨u, hu, hk⟩

theorem arr9 {cs : Array Value} (h : cs.size = 9) : ∃ a b c d e f g i j, cs = #[a, b, c, d, e, f, g, i, j] := by
  obtain ⟨l⟩ := cs
  match l, h with
  | [a, b, c, d, e, f, g, i, j], _ => exact ⟨a, b, c, d, e, f, g, i, j, rfl⟩

theorem cellTypesT : Try.prog.cellTypes Try.prog.depth 25 = some [3, 3, 3, 3, 3, 4, 3, 3, 3] := by kernel_rfl
set_option maxRecDepth 100000 in
theorem open_test {w : World} {base : Nat} {v : Value} (h : Value.okWide Try.prog w .any base 25 v) : ∃ x : HT, v = .agg x.cells := by
  obtain ⟨fs, hu⟩ : ∃ fs, Try.prog.underlying 25 = some (.struct fs) := ⟨_, Try.underlying25⟩
  simp only [Value.okWide, hu] at h
  obtain ⟨cs, rfl, hs, hr⟩ := h
  obtain ⟨a, b, c, d, e, f, g, i, j, rfl⟩ := arr9 (hs.trans (show Try.prog.cellsOf 25 = 9 by kernel_rfl))
  have hn : ∀ (k : Nat) (v : Value), k < 9 → k ≠ 5 → (#[a, b, c, d, e, f, g, i, j] : Array Value)[k]? = some v → ∃ n, v = .int .i64 n := by
    intro k v hk h5 hv
    obtain ⟨u, hu, hc⟩ := row_at _ cellTypesT hr (i := k) (v := v) hk hv
    have hu3 : u = 3 := by
      match k, hk, h5, hu with
      | 0, _, _, hu => exact (Option.some.inj hu).symm
      | 1, _, _, hu => exact (Option.some.inj hu).symm
      | 2, _, _, hu => exact (Option.some.inj hu).symm
      | 3, _, _, hu => exact (Option.some.inj hu).symm
      | 4, _, _, hu => exact (Option.some.inj hu).symm
      | 6, _, _, hu => exact (Option.some.inj hu).symm
      | 7, _, _, hu => exact (Option.some.inj hu).symm
      | 8, _, _, hu => exact (Option.some.inj hu).symm
    subst hu3
    exact cell_int Try.underlying3 hc
  obtain ⟨u, hu, hc⟩ := row_at _ cellTypesT hr (i := 5) (v := f) (by decide) rfl
  cases hu
  obtain ⟨cp, rfl⟩ := cell_bool Try.underlying4 hc
  obtain ⟨n0, rfl⟩ := hn 0 a (by decide) (by decide) rfl
  obtain ⟨n1, rfl⟩ := hn 1 b (by decide) (by decide) rfl
  obtain ⟨n2, rfl⟩ := hn 2 c (by decide) (by decide) rfl
  obtain ⟨n3, rfl⟩ := hn 3 d (by decide) (by decide) rfl
  obtain ⟨n4, rfl⟩ := hn 4 e (by decide) (by decide) rfl
  obtain ⟨n6, rfl⟩ := hn 6 g (by decide) (by decide) rfl
  obtain ⟨n7, rfl⟩ := hn 7 i (by decide) (by decide) rfl
  obtain ⟨n8, rfl⟩ := hn 8 j (by decide) (by decide) rfl
  exact ⟨⟨n0, n1, n2, n3, n4, cp, n6, n7, n8⟩, rfl⟩

theorem cell_lt {w : World} {a : Addr} {v : Value} (h : w.cell? a = some v) : a.block < w.heap.size := by
  unfold World.cell? at h
  split at h
  · rename_i hb; exact (Array.getElem?_eq_some_iff.1 hb).1
  · cases h

set_option maxRecDepth 100000 in
theorem open_list {H : Type} {enc : TypeId × Value → H} {W : World} {v : Value} {d : DataW H} {p : List MemPlace} {base : Nat} (hv : Value.okWide Try.prog W .any base 26 v) (h : DataW.Trod enc Try.prog W 0 (fun _ => true) true 26 v d p) :
    ∃ (zs : List Int) (a : Option Addr) (cap : Nat), v = .slice a zs.length cap ∧ zs.length ≤ maxLen ∧ zs.length ≤ cap ∧ Reads W a zs.length (ints zs) := by
  obtain ⟨a0, len0, cap0, rfl⟩ := okWide_slice Try.underlying26 hv
  obtain ⟨fuel, hf⟩ := h
  rcases open_ints Try.underlying26 Try.underlying3 (by kernel_rfl) hf with ⟨hcs, _⟩ | ⟨x, l, c, zs, hcs, _, hl, hm, hz, _, hcell, hwz⟩
  · simp [Value.cells] at hcs
    obtain ⟨rfl, rfl, rfl⟩ := hcs
    exact ⟨[], none, 0, rfl, Nat.zero_le _, Nat.zero_le _, .inl rfl⟩
  · simp [Value.cells] at hcs
    obtain ⟨rfl, rfl, rfl⟩ := hcs
    have hzl : zs.length = cap0 := by simpa using hz
    have htl : (zs.take len0).length = len0 := by rw [List.length_take]; omega
    refine ⟨zs.take len0, some x, cap0, by rw [htl], by rw [htl]; omega, by rw [htl]; exact hl, ?_⟩
    rw [htl]
    by_cases h0 : len0 = 0
    · exact .inl h0
    · have hc := hcell 0 (by omega)
      obtain ⟨b, off, spot⟩ := x
      have hspot : spot = none := by simpa [Addr.add] using World.cell?_spot hc
      subst hspot
      have hadd : ∀ i, (⟨b, off, none⟩ : Addr).add i = ⟨b, off + i, none⟩ := by intro i; unfold Addr.add; split <;> simp_all
      refine .inr ⟨b, off, rfl, ?_, fun i hi => ?_⟩
      · have := cell_lt hc; rwa [hadd] at this
      · rw [← hadd i, hcell i (by omega)]
        unfold ints gi
        rw [List.getD_eq_getElem?_getD, List.getD_eq_getElem?_getD, List.getElem?_take, if_pos hi]

end Go.Proofs.Ytjieojkfpoiabaa
