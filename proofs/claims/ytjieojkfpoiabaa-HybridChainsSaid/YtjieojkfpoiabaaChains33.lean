/-
  Texts of this claim, in their build order: G3.
-/
import Derived.Test.YtjieojkfpoiabaaChains22
import Derived.Test.YtjieojkfpoiabaaChains32
import Derived.Test.YtjieojkfpoiabaaChains30

/-
  The arguments of a statement, opened: a chain; halves of a chain.
-/
namespace Go.Proofs.Ytjieojkfpoiabaa
open Go.ChangeShapes Go.WideShapes Go.ChangeAt Go.RowKit

theorem lit_i64 {n : Int} (h : (Lit.int .i64 n).wf = true) : -9223372036854775808 ≤ n ∧ n ≤ 9223372036854775807 := by
  simp only [Lit.wf] at h
  simp_all
  exact h.1
set_option maxRecDepth 100000 in
theorem open_ints' {H : Type} {enc : TypeId × Value → H} {W : World} {fuel : Nat} {cs : List Value} {x : DataW H × List MemPlace} (hf : DataW.trod enc Try.prog W 0 (fun _ => true) true fuel 26 cs = some x) :
    ∃ (zs : List Int) (a : Option Addr) (cap : Nat), cs = [.slice a zs.length cap] ∧ zs.length ≤ maxLen ∧ zs.length ≤ cap ∧ Reads W a zs.length (ints zs) := by
  rcases open_ints Try.underlying26 Try.underlying3 (by kernel_rfl) hf with ⟨hcs, _⟩ | ⟨x, l, c, zs, hcs, _, hl, hm, hz, _, hcell, hwz⟩
  · exact ⟨[], none, 0, hcs, Nat.zero_le _, Nat.zero_le _, .inl rfl⟩
  · have hzl : zs.length = c := by simpa using hz
    have htl : (zs.take l).length = l := by rw [List.length_take]; omega
    refine ⟨zs.take l, some x, c, by rw [htl]; exact hcs, by rw [htl]; omega, by rw [htl]; exact hl, ?_⟩
    rw [htl]
    by_cases h0 : l = 0
    · exact .inl h0
    · have hc := hcell 0 (by omega)
      obtain ⟨b, off, spot⟩ := x
      have hspot : spot = none := by simpa [Addr.add] using World.cell?_spot hc
      subst hspot
      have hadd : ∀ i, (⟨b, off, none⟩ : Addr).add i = ⟨b, off + i, none⟩ := by intro i; unfold Addr.add; split <;> simp_all
      refine .inr ⟨b, off, rfl, ?_, fun i hi => ?_⟩
      · have := cell_lt hc; rwa [hadd] at this
      · rw [← hadd i, hcell i (by omega)]
        unfold ints gi
        rw [List.getD_eq_getElem?_getD, List.getD_eq_getElem?_getD, List.getElem?_take, if_pos hi]

set_option maxRecDepth 100000 in
theorem frac_of {H : Type} {enc : TypeId × Value → H} {W : World} {base fuel : Nat} {spare : Nat → Bool} {held : Bool} {cs : List Value} {y : DataW H × List MemPlace} (h : DataW.trod enc Try.prog W base spare held fuel 86 cs = some y) :
    ∃ p : Int × Int, cs = [.int .i64 p.1, .int .i64 p.2] ∧ I64 p := by
  obtain ⟨y0, y1, m, _, hl, h0, h1⟩ := trod_struct2 Try.underlying86 h
  have hl3 : cs.length = 2 := hl.trans (by kernel_rfl)
  have hc1 : Try.prog.cellsOf 3 = 1 := by kernel_rfl
  match cs, hl3 with
  | [a, b], _ =>
    simp only [hc1] at h0 h1
    obtain ⟨n0, e0, -, w0⟩ := DataW.trod_int Try.underlying3 h0
    obtain ⟨n1, e1, -, w1⟩ := DataW.trod_int Try.underlying3 h1
    simp at e0 e1
    exact ⟨(n0, n1), by rw [e0, e1], ⟨(lit_i64 w0).1, (lit_i64 w0).2, (lit_i64 w1).1, (lit_i64 w1).2⟩⟩

set_option maxRecDepth 100000 in
theorem open_fracs' {H : Type} {enc : TypeId × Value → H} {W : World} {fuel : Nat} {cs : List Value} {x : DataW H × List MemPlace} (hf : DataW.trod enc Try.prog W 0 (fun _ => true) true fuel 74 cs = some x) :
    ∃ (ms : List (Int × Int)) (a : Option Addr) (cap : Nat), cs = [.slice a ms.length cap] ∧ ms.length ≤ maxLen ∧ ms.length ≤ cap ∧ Reads W a (ms.length * 2) (fracs ms) ∧ ∀ k, k < ms.length → I64 (fg ms k) := by
  rcases DataW.trod_slice Try.underlying74 hf with ⟨hcs, -⟩ | ⟨x, len0, cap0, elems, rest, n, _, hcs, _, hb, hl, hm, hlen, hel, -, -⟩
  · exact ⟨[], none, 0, hcs, Nat.zero_le _, Nat.zero_le _, .inl rfl, fun k hk => by simp at hk⟩
  · have hc3 : Try.prog.cellsOf 86 = 2 := by kernel_rfl
    have hex : ∀ i : Nat, ∃ q : Int × Int, i < len0 → I64 q ∧ ∀ k, k < 2 → W.cell? (x.add (i * 2) |>.add k) = ([Value.int .i64 q.1, .int .i64 q.2] : List Value)[k]? := by
      intro i
      by_cases hi : i < len0
      · have h1 := hel i hi
        rw [hc3, List.getElem?_eq_getElem (by omega)] at h1
        obtain ⟨cs', hcs, hy⟩ := Option.bind_eq_some_iff.1 h1
        obtain ⟨q, rfl, hq⟩ := frac_of hy
        obtain ⟨-, -, h3⟩ := World.cells?_some hcs
        exact ⟨q, fun _ => ⟨hq, fun k hk => h3 k hk⟩⟩
      · exact ⟨(0, 0), fun h => absurd h hi⟩
    obtain ⟨f, hf⟩ := Classical.axiomOfChoice hex
    have hml : ((List.range len0).map f).length = len0 := by simp
    have hg : ∀ i, i < len0 → fg ((List.range len0).map f) i = f i := fun i hi => by
      unfold fg
      rw [List.getD_eq_getElem?_getD, List.getElem?_map, List.getElem?_range (by omega)]
      rfl
    refine ⟨(List.range len0).map f, some x, cap0, by rw [hml]; exact hcs, by rw [hml]; omega, by rw [hml]; exact hl, ?_, fun k hk => by rw [hml] at hk; rw [hg k hk]; exact (hf k hk).1⟩
    rw [hml]
    by_cases h0 : len0 = 0
    · exact .inl (by rw [h0])
    · have hc := (hf 0 (by omega)).2 0 (by omega)
      obtain ⟨b, off, spot⟩ := x
      have hspot : spot = none := by simpa [Addr.add] using World.cell?_spot hc
      subst hspot
      have hadd : ∀ i j, ((⟨b, off, none⟩ : Addr).add i).add j = ⟨b, off + (i + j), none⟩ := by intro i j; unfold Addr.add; split <;> split <;> simp_all <;> omega
      refine .inr ⟨b, off, rfl, ?_, fun i hi => ?_⟩
      · have := cell_lt hc; rwa [hadd] at this
      · have h3 := (hf (i / 2) (by omega)).2 (i % 2) (Nat.mod_lt _ (by decide))
        rw [hadd, show i / 2 * 2 + i % 2 = i by omega] at h3
        rw [h3]
        unfold fracs
        rw [hg _ (by omega)]
        have hcase : i % 2 = 0 ∨ i % 2 = 1 := by omega
        rcases hcase with h | h <;> rw [h] <;> rfl

theorem arr3 {cs : Array Value} (h : cs.size = 3) : ∃ a b c, cs = #[a, b, c] := by
  obtain ⟨l⟩ := cs
  match l, h with
  | [a, b, c], _ => exact ⟨a, b, c, rfl⟩
set_option maxRecDepth 100000 in
theorem open_chain {H : Type} {enc : TypeId × Value → H} {W : World} {v : Value} {d : DataW H} {p : List MemPlace} {base : Nat} (hv : Value.okWide Try.prog W .any base 73 v) (h : DataW.Trod enc Try.prog W 0 (fun _ => true) true 73 v d p) :
    ∃ (ks fs : List Int) (a1 a2 : Option Addr) (c1 c2 : Nat), v = .agg (chV a1 ks.length c1 a2 fs.length c2) ∧ ks.length ≤ maxLen ∧ fs.length ≤ maxLen ∧ ks.length ≤ c1 ∧ fs.length ≤ c2 ∧ Reads W a1 ks.length (ints ks) ∧ Reads W a2 fs.length (ints fs) := by
  obtain ⟨fs, hu⟩ : ∃ fs, Try.prog.underlying 73 = some (.struct fs) := ⟨_, Try.underlying73⟩
  simp only [Value.okWide, hu] at hv
  obtain ⟨cs, rfl, hs, -⟩ := hv
  obtain ⟨a, b, rfl⟩ := arr2 (hs.trans (show Try.prog.cellsOf 73 = 2 by kernel_rfl))
  obtain ⟨fuel, hf⟩ := h
  obtain ⟨y0, y1, m, _, -, h0, h1⟩ := trod_struct2 Try.underlying73 hf
  have hc1 : Try.prog.cellsOf 26 = 1 := by kernel_rfl
  simp only [hc1] at h0 h1
  obtain ⟨zs, a1, c1, e0, l0, l1, r0⟩ := open_ints' h0
  obtain ⟨ys, a2, c2, e1, l2, l3, r1⟩ := open_ints' h1
  simp [Value.cells] at e0 e1
  exact ⟨zs, ys, a1, a2, c1, c2, by rw [e0, e1], l0, l2, l1, l3, r0, r1⟩
set_option maxRecDepth 100000 in
theorem open_halves {H : Type} {enc : TypeId × Value → H} {W : World} {v : Value} {d : DataW H} {p : List MemPlace} {base : Nat} (hv : Value.okWide Try.prog W .any base 76 v) (h : DataW.Trod enc Try.prog W 0 (fun _ => true) true 76 v d p) :
    ∃ (ls us : List (Int × Int)) (F : Int) (a1 a2 : Option Addr) (c1 c2 : Nat), v = .agg (hvV a1 ls.length c1 a2 us.length c2 F) ∧ ls.length ≤ maxLen ∧ us.length ≤ maxLen ∧ Reads W a1 (ls.length * 2) (fracs ls) ∧ Reads W a2 (us.length * 2) (fracs us) ∧ (∀ k, k < ls.length → I64 (fg ls k)) ∧ (∀ k, k < us.length → I64 (fg us k)) := by
  obtain ⟨fs, hu⟩ : ∃ fs, Try.prog.underlying 76 = some (.struct fs) := ⟨_, Try.underlying76⟩
  simp only [Value.okWide, hu] at hv
  obtain ⟨cs, rfl, hs, -⟩ := hv
  obtain ⟨a, b, c, rfl⟩ := arr3 (hs.trans (show Try.prog.cellsOf 76 = 3 by kernel_rfl))
  obtain ⟨fuel, hf⟩ := h
  obtain ⟨y0, y1, y2, m, _, -, h0, h1, h2⟩ := Go.Deep.trod_struct3 Try.underlying76 hf
  have hc1 : Try.prog.cellsOf 74 = 1 := by kernel_rfl
  have hc2 : Try.prog.cellsOf 3 = 1 := by kernel_rfl
  simp only [hc1, hc2] at h0 h1 h2
  obtain ⟨zs, a1, c1, e0, l0, -, r0, i0⟩ := open_fracs' h0
  obtain ⟨ys, a2, c2, e1, l2, -, r1, i1⟩ := open_fracs' h1
  obtain ⟨F, e2, -, -⟩ := DataW.trod_int Try.underlying3 h2
  simp [Value.cells] at e0 e1 e2
  exact ⟨zs, ys, F, a1, a2, c1, c2, by rw [e0, e1, e2], l0, l2, r0, r1, i0, i1⟩

end Go.Proofs.Ytjieojkfpoiabaa

