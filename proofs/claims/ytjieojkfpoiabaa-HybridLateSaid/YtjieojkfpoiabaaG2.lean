/-
  The arguments of a statement, opened: a clock; messages.
-/
import Derived.Test.YtjieojkfpoiabaaG1
import Derived.Test.YtjieojkfpoiabaaD1
import Derived.Deep.Strs
namespace Go.Proofs.Ytjieojkfpoiabaa
open Go.ChangeShapes Go.WideShapes Go.ChangeAt Go.RowKit

theorem arr2 {cs : Array Value} (h : cs.size = 2) : ∃ a b, cs = #[a, b] := by
  obtain ⟨l⟩ := cs
  match l, h with
  | [a, b], _ => exact ⟨a, b, rfl⟩

theorem cellTypesC : Try.prog.cellTypes Try.prog.depth 45 = some [3, 3] := by kernel_rfl
set_option maxRecDepth 100000 in
theorem open_clock {w : World} {base : Nat} {v : Value} (h : Value.okWide Try.prog w .any base 45 v) : ∃ d u : Int, v = .agg #[.int .i64 d, .int .i64 u] := by
  obtain ⟨fs, hu⟩ : ∃ fs, Try.prog.underlying 45 = some (.struct fs) := ⟨_, Try.underlying45⟩
  simp only [Value.okWide, hu] at h
  obtain ⟨cs, rfl, hs, hr⟩ := h
  obtain ⟨a, b, rfl⟩ := arr2 (hs.trans (show Try.prog.cellsOf 45 = 2 by kernel_rfl))
  obtain ⟨u0, hu0, hc0⟩ := row_at _ cellTypesC hr (i := 0) (v := a) (by decide) rfl
  cases hu0
  obtain ⟨u1, hu1, hc1⟩ := row_at _ cellTypesC hr (i := 1) (v := b) (by decide) rfl
  cases hu1
  obtain ⟨n0, rfl⟩ := cell_int Try.underlying3 hc0
  obtain ⟨n1, rfl⟩ := cell_int Try.underlying3 hc1
  exact ⟨n0, n1, rfl⟩

set_option maxRecDepth 100000 in
theorem msg_of {H : Type} {enc : TypeId × Value → H} {W : World} {base fuel : Nat} {spare : Nat → Bool} {held : Bool} {cs : List Value} {y : DataW H × List MemPlace} (h : DataW.trod enc Try.prog W base spare held fuel 61 cs = some y) :
    ∃ p : Msg, cs = [.int .i64 p.1, .int .i64 p.2.1, .int .i64 p.2.2] := by
  obtain ⟨y0, y1, y2, m, _, hl, h0, h1, h2⟩ := Go.Deep.trod_struct3 Try.underlying61 h
  have hl3 : cs.length = 3 := hl.trans (by kernel_rfl)
  have hc1 : Try.prog.cellsOf 3 = 1 := by kernel_rfl
  match cs, hl3 with
  | [a, b, c], _ =>
    simp only [hc1] at h0 h1 h2
    obtain ⟨n0, e0, -, -⟩ := DataW.trod_int Try.underlying3 h0
    obtain ⟨n1, e1, -, -⟩ := DataW.trod_int Try.underlying3 h1
    obtain ⟨n2, e2, -, -⟩ := DataW.trod_int Try.underlying3 h2
    simp at e0 e1 e2
    exact ⟨(n0, n1, n2), by rw [e0, e1, e2]⟩

set_option maxRecDepth 100000 in
theorem open_msgs {H : Type} {enc : TypeId × Value → H} {W : World} {v : Value} {d : DataW H} {p : List MemPlace} {base : Nat} (hv : Value.okWide Try.prog W .any base 43 v) (h : DataW.Trod enc Try.prog W 0 (fun _ => true) true 43 v d p) :
    ∃ (ms : List Msg) (a : Option Addr) (cap : Nat), v = .slice a ms.length cap ∧ ms.length ≤ maxLen ∧ ms.length ≤ cap ∧ Reads W a (ms.length * 3) (msgs ms) := by
  obtain ⟨a0, len0, cap0, rfl⟩ := okWide_slice Try.underlying43 hv
  obtain ⟨fuel, hf⟩ := h
  rcases DataW.trod_slice Try.underlying43 hf with ⟨hcs, -⟩ | ⟨x, l, c, elems, rest, n, _, hcs, _, hb, hl, hm, hlen, hel, -, -⟩
  · simp [Value.cells] at hcs
    obtain ⟨rfl, rfl, rfl⟩ := hcs
    exact ⟨[], none, 0, rfl, Nat.zero_le _, Nat.zero_le _, .inl rfl⟩
  · simp [Value.cells] at hcs
    obtain ⟨rfl, rfl, rfl⟩ := hcs
    have hc3 : Try.prog.cellsOf 61 = 3 := by kernel_rfl
    have hex : ∀ i : Nat, ∃ q : Msg, i < len0 → ∀ k, k < 3 → W.cell? (x.add (i * 3) |>.add k) = ([Value.int .i64 q.1, .int .i64 q.2.1, .int .i64 q.2.2] : List Value)[k]? := by
      intro i
      by_cases hi : i < len0
      · have h1 := hel i hi
        rw [hc3, List.getElem?_eq_getElem (by omega)] at h1
        obtain ⟨cs', hcs, hy⟩ := Option.bind_eq_some_iff.1 h1
        obtain ⟨q, rfl⟩ := msg_of hy
        obtain ⟨-, -, h3⟩ := World.cells?_some hcs
        exact ⟨q, fun _ k hk => h3 k hk⟩
      · exact ⟨(0, 0, 0), fun h => absurd h hi⟩
    obtain ⟨f, hf⟩ := Classical.axiomOfChoice hex
    have hml : ((List.range len0).map f).length = len0 := by simp
    refine ⟨(List.range len0).map f, some x, cap0, by rw [hml], by rw [hml]; omega, by rw [hml]; exact hl, ?_⟩
    rw [hml]
    by_cases h0 : len0 = 0
    · exact .inl (by rw [h0])
    · have hc := hf 0 (by omega) 0 (by omega)
      obtain ⟨b, off, spot⟩ := x
      have hspot : spot = none := by simpa [Addr.add] using World.cell?_spot hc
      subst hspot
      have hadd : ∀ i j, ((⟨b, off, none⟩ : Addr).add i).add j = ⟨b, off + (i + j), none⟩ := by intro i j; unfold Addr.add; split <;> split <;> simp_all <;> omega
      refine .inr ⟨b, off, rfl, ?_, fun i hi => ?_⟩
      · have := cell_lt hc; rwa [hadd] at this
      · have h3 := hf (i / 3) (by omega) (i % 3) (Nat.mod_lt _ (by decide))
        rw [hadd, show i / 3 * 3 + i % 3 = i by omega] at h3
        rw [h3]
        have hg : mg ((List.range len0).map f) (i / 3) = f (i / 3) := by
          unfold mg
          rw [List.getD_eq_getElem?_getD, List.getElem?_map, List.getElem?_range (by omega)]
          rfl
        unfold msgs mK mS mA
        rw [hg]
        have hcase : i % 3 = 0 ∨ i % 3 = 1 ∨ i % 3 = 2 := by omega
        rcases hcase with h | h | h <;> rw [h] <;> rfl

end Go.Proofs.Ytjieojkfpoiabaa
