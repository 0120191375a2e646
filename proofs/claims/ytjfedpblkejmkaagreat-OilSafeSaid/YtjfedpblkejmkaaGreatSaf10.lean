/-
  Texts of this claim, in their build order: OP2 Lib12 Lib14.
-/
import Derived.Test.YtjfedpblkejmkaaGreatSaf9
import Derived.Test.YtjfedpblkejmkaaGreatSaf6
import Derived.Shelf.Bits.Mul64
import Derived.Shelf.Spec.BitsCarry
import Derived.Test.YtjfedpblkejmkaaGreatSaf4
import Derived.Test.YtjfedpblkejmkaaGreatSaf8
import Derived.Lib.AppendZerosOnto

/-
  Plain laws of a plant: the next state of the program is that of the reference; runs.
-/
namespace Go.Proofs.YtjfedpblkejmkaaGreat
open Go.RowKit

/-- Is a quotient less than another one? -/
def lessQ (a b : Int × Int) : Bool := decide (a.1 * b.2 < b.1 * a.2)
/-- A plant: its points, what its pump gives, when it starts and stops. -/
structure Plt where
  pts : List (Int × Int)
  pump : Int
  on : Int
  off : Int
structure PltOk (p : Plt) : Prop where
  pts : PtsOk p.pts
  pump : 0 ≤ p.pump ∧ p.pump ≤ 50
  on : 0 ≤ p.on ∧ p.on ≤ 1000
  off : 0 ≤ p.off ∧ p.off ≤ 1000
  ord : p.on < p.off
/-- The volume after a demand. -/
def vlmA (p : Plt) (s : Int × Bool) (d : Int) : Int := min ((if s.2 then s.1 + p.pump else s.1) - d) (capV p.pts)
/-- Whether the pump runs at a volume. -/
def pmpA (p : Plt) (r : Bool) (v : Int) : Bool := if lessQ (p.on, 1) (prQ p.pts v) = false then true else if lessQ (prQ p.pts v) (p.off, 1) = false then false else r
/-- The next state, of the program. -/
def nxtA (p : Plt) (s : Int × Bool) (d : Int) : Option (Int × Bool) := if vlmA p s d < 0 then none else some (vlmA p s d, pmpA p s.2 (vlmA p s d))
theorem cap_pos {p : Plt} (h : PltOk p) : 0 < capV p.pts := by
  have h2 := h.pts.two
  have := (h.pts.mono (i := 0) (d := p.pts.length - 1) (by omega)).1
  rw [h.pts.v0, Nat.zero_add] at this
  unfold capV
  omega
theorem cap_le {p : Plt} (h : PltOk p) : capV p.pts ≤ 200 := (h.pts.vol (p.pts.length - 1) (by have := h.pts.two; omega)).2
/-- A state of a plant. -/
def StOk (p : Plt) (s : Int × Bool) : Prop := 0 ≤ s.1 ∧ s.1 ≤ capV p.pts
theorem nxtA_ok {p : Plt} {s t : Int × Bool} {d : Int} (ht : nxtA p s d = some t) : StOk p t := by
  unfold nxtA at ht
  split at ht
  · cases ht
  · rename_i h0
    cases ht
    exact ⟨by dsimp only; omega, by dsimp only; unfold vlmA; omega⟩
end Go.Proofs.YtjfedpblkejmkaaGreat

/-
  A drawn region whose first operations keep what lies below any N; a row of its own, known whole.
-/
namespace Go.Proofs.YtjfedpblkejmkaaGreat
open Go.RowKit

/-- A row of its own, from block n0 on: its cells, whole. -/
def Own (W : World) (n0 : Nat) (a : Option Addr) (m : Nat) (f : Nat → Value) : Prop :=
  (∀ p, a = some p → n0 ≤ p.block ∧ p.block < W.heap.size) ∧ (m = 0 ∨ ∃ g cur, a = some ⟨g, 0, none⟩ ∧ Blk W g cur ∧ ∀ i, i < m → cur[i]? = some (f i))
theorem Own.to {W W' : World} {n0 : Nat} {a : Option Addr} {m : Nat} {f : Nat → Value} (h : Own W n0 a m f) (hb : Below W.heap.size W W') : Own W' n0 a m f := by
  refine ⟨fun p hp => ⟨(h.1 p hp).1, Nat.lt_of_lt_of_le (h.1 p hp).2 hb.size⟩, ?_⟩
  rcases h.2 with h | ⟨g, cur, e, hk, hc⟩
  · exact .inl h
  · exact .inr ⟨g, cur, e, hk.to hb, hc⟩
theorem Own.le {W : World} {n0 n1 : Nat} {a : Option Addr} {m : Nat} {f : Nat → Value} (h : Own W n0 a m f) (hn : n1 ≤ n0) : Own W n1 a m f :=
  ⟨fun p hp => ⟨Nat.le_trans hn (h.1 p hp).1, (h.1 p hp).2⟩, h.2⟩
theorem Own.other {W : World} {n0 : Nat} {a : Option Addr} {m : Nat} {f : Nat → Value} (h : Own W n0 a m f) (p : Addr) (v : Value) (hp : p.block < n0) : Own (W.setCell p v) n0 a m f := by
  refine ⟨fun q hq => ⟨(h.1 q hq).1, by simpa [World.setCell] using (h.1 q hq).2⟩, ?_⟩
  rcases h.2 with h0 | ⟨g, cur, e, hk, hc⟩
  · exact .inl h0
  · refine .inr ⟨g, cur, e, hk.other (fun e' => ?_) v, hc⟩
    have := (h.1 _ e).1
    dsimp only at this
    omega
theorem Own.at {W : World} {n0 : Nat} {a : Option Addr} {m : Nat} {f : Nat → Value} (h : Own W n0 a m f) (hm : 0 < m) : ∃ g cur, a = some ⟨g, 0, none⟩ ∧ n0 ≤ g ∧ Blk W g cur ∧ ∀ i, i < m → cur[i]? = some (f i) := by
  rcases h.2 with h0 | ⟨g, cur, e, hk, hc⟩
  · omega
  · exact ⟨g, cur, e, (h.1 _ e).1, hk, hc⟩
theorem Blk.row {W : World} {g : Nat} {cur : Array Value} {m : Nat} {f : Nat → Value} (h : Blk W g cur) (hc : ∀ i, i < m → cur[i]? = some (f i)) : Reads W (some ⟨g, 0, none⟩) m f :=
  .inr ⟨g, 0, rfl, h.1, fun i hi => by rw [Nat.zero_add, h.2.1 i, hc i hi]⟩
theorem Own.of_row {W : World} {n₀ : Nat} {e : TypeId} {size : Nat} {v : Value} {n : Nat} {xs : List Value} {f : Nat → Value} (h : W.ownsRow n₀ e size v n xs) (hf : ∀ i, i < n * size → xs[i]? = some (f i)) :
    ∃ a cap, v = .slice a n cap ∧ n ≤ cap ∧ Own W n₀ a (n * size) f := by
  rcases h.2 with ⟨rfl, h0⟩ | ⟨g, cap, cur, rfl, hb, hg, hn, hc, hs, ht⟩
  · exact ⟨none, 0, by rw [h0], by omega, ⟨fun p hp => (by cases hp), .inl (by rw [h0, Nat.zero_mul])⟩⟩
  · have hlt : g < W.heap.size := (Array.getElem?_eq_some_iff.1 hg).1
    refine ⟨_, cap, rfl, hn, ⟨fun p hp => (by cases hp; exact ⟨hb, hlt⟩), .inr ⟨g, cur, rfl, ⟨hlt, fun o => (by unfold World.cell?; simp only [hg]; rfl), fun o => (by unfold World.frozen?; simp only [hg]; simp)⟩, fun i hi => ?_⟩⟩⟩
    rw [← hf i hi, ← ht, List.getElem?_take, if_pos hi, Array.getElem?_toList]

end Go.Proofs.YtjfedpblkejmkaaGreat

/-
  Rows of records: s cells each, the j-th cell of the k-th record is f k j.
-/
namespace Go.Proofs.YtjfedpblkejmkaaGreat
open Go.RowKit

/-- The cells of records. -/
def recs (s : Nat) (f : Nat → Nat → Value) (i : Nat) : Value := f (i / s) (i % s)
theorem recs_at {s : Nat} {f : Nat → Nat → Value} {k j : Nat} (h : j < s) : recs s f (k * s + j) = f k j := by
  unfold recs
  rw [Nat.mul_comm k s, Nat.mul_add_div (by omega), Nat.div_eq_of_lt h, Nat.mul_add_mod, Nat.mod_eq_of_lt h, Nat.add_zero]
def rcells (s : Nat) (f : Nat → Nat → Value) (n : Nat) : List Value := (List.range (n * s)).map (recs s f)
theorem rcells_len (s : Nat) (f : Nat → Nat → Value) (n : Nat) : (rcells s f n).length = n * s := by simp [rcells]
theorem rcells_get {s : Nat} {f : Nat → Nat → Value} {n i : Nat} (h : i < n * s) : (rcells s f n)[i]? = some (recs s f i) := by
  unfold rcells; rw [List.getElem?_map, List.getElem?_range h]; rfl
theorem rcells_ext {s : Nat} {f : Nat → Nat → Value} {n : Nat} {l : List Value} (hl : l.length = n * s) (h : ∀ k j, k < n → j < s → l[k * s + j]? = some (f k j)) : l = rcells s f n := by
  refine List.ext_getElem? fun i => ?_
  by_cases hi : i < n * s
  · rw [rcells_get hi]
    have hs : 0 < s := by rcases Nat.eq_zero_or_pos s with e | e; · rw [e] at hi; omega
                          · exact e
    have h1 : i / s < n := Nat.div_lt_of_lt_mul (by rw [Nat.mul_comm]; exact hi)
    have := h (i / s) (i % s) h1 (Nat.mod_lt _ hs)
    rw [Nat.div_add_mod' i s] at this
    exact this
  · rw [List.getElem?_eq_none (by omega), List.getElem?_eq_none (by rw [rcells_len]; omega)]
/-- One record more. -/
theorem rcells_snoc (s : Nat) (f : Nat → Nat → Value) (n : Nat) {l : List Value} (hl : l.length = s) (h : ∀ j, j < s → l[j]? = some (f n j)) : rcells s f n ++ l = rcells s f (n + 1) := by
  refine rcells_ext (by rw [List.length_append, rcells_len, hl, Nat.succ_mul]) fun k j hk hj => ?_
  by_cases hkn : k < n
  · have hlt : k * s + j < n * s := by
      have : (k + 1) * s ≤ n * s := Nat.mul_le_mul_right _ hkn
      rw [Nat.succ_mul] at this; omega
    rw [List.getElem?_append_left (by rw [rcells_len]; exact hlt), rcells_get hlt, recs_at hj]
  · obtain rfl : k = n := by omega
    rw [List.getElem?_append_right (by rw [rcells_len]; omega), rcells_len, show k * s + j - k * s = j by omega]
    exact h j hj
/-- What an append takes as its news. -/
theorem Reads.newsR {W : World} {ad : Addr} {n s : Nat} {f : Nat → Nat → Value} (h : Reads W (some ad) (n * s) (recs s f)) : ∀ j u, (rcells s f n)[j]? = some u → W.cell? (ad.add j) = some u := by
  intro j u hj
  have hjl : j < n * s := by rw [← rcells_len s f n]; exact (List.getElem?_eq_some_iff.1 hj).1
  obtain ⟨b, off, e, hb, hc⟩ := h.at hjl
  cases e
  have e : (⟨b, off, none⟩ : Addr).add j = ⟨b, off + j, none⟩ := by unfold Addr.add; split <;> simp_all
  rw [e, hc j hjl, ← hj, rcells_get hjl]
theorem onesR {s : Nat} {f : Nat → Nat → Value} {n : Nat} (h : ∀ k j, k < n → j < s → (f k j).oneCell' = true) : ∀ u ∈ rcells s f n, u.oneCell' = true := by
  intro u hu
  obtain ⟨i, hi, rfl⟩ := List.getElem_of_mem hu
  have hi2 : i < n * s := by rw [rcells_len] at hi; exact hi
  have hs : 0 < s := by rcases Nat.eq_zero_or_pos s with e | e; · rw [e] at hi2; omega
                        · exact e
  have e := rcells_get (f := f) hi2
  rw [List.getElem?_eq_getElem hi] at e
  injection e with e
  rw [e]
  exact h _ _ (Nat.div_lt_of_lt_mul (by rw [Nat.mul_comm]; exact hi2)) (Nat.mod_lt _ hs)

end Go.Proofs.YtjfedpblkejmkaaGreat

