/-
  Texts of this claim, in their build order: Lib8.
-/
import Derived.Test.YtjieojkfpoiabaaHalves10

/-
  A variable's box that holds a slice of the call's own, in a loop over an iterator: for any element.
-/
namespace Go.Proofs.Ytjieojkfpoiabaa
open Go.RowKit

/-- The box bo holds a slice of n elements, the cells xs, in memory of its own from block n0 on; M: what may be written. -/
def OutI (tS tE : TypeId) (size n0 bo : Nat) (w : World) (n : Nat) (xs : List Value) (M : Nat → Prop) (W : World) : Prop :=
  ∃ v, Boxed W bo tS v ∧ W.ownsRow n0 tE size v n xs ∧ Below n0 w W ∧ (∀ k, v.ownBlock = some k → M k) ∧ M bo ∧ (∀ k, M k → k < W.heap.size ∧ n0 ≤ k)

theorem agree_heap {B : Nat} {M : Nat → Prop} {W1 W2 : World} (h : Agree B M W1 W2) {b : Nat} {o : Obj} (hM : M b) (hb : W1.heap[b]? = some o) : W2.heap[b]? = some o :=
  (h.same b (Array.getElem?_eq_some_iff.1 hb).1 hM).trans hb
theorem OutI.agree {tS tE : TypeId} {size B n0 bo : Nat} {w : World} {n : Nat} {xs : List Value} {M : Nat → Prop} {W1 W2 : World} (h : OutI tS tE size n0 bo w n xs M W1) (hag : Agree B M W1 W2) (hB : n0 ≤ B) : OutI tS tE size n0 bo w n xs M W2 := by
  obtain ⟨v, hv, hr, hb, hvm, hbm, hm⟩ := h
  refine ⟨v, agree_heap hag hbm hv, ⟨hr.1, ?_⟩, hb.trans (hag.below.mono hB), hvm, hbm, fun k hk => ⟨Nat.lt_of_lt_of_le (hm k hk).1 hag.size, (hm k hk).2⟩⟩
  rcases hr.2 with hn | ⟨g, cap, cur, rfl, hbg, hg, rest⟩
  · exact .inl hn
  · exact .inr ⟨g, cap, cur, rfl, hbg, agree_heap hag (hvm g rfl) hg, rest⟩
theorem OutI.more {tS tE : TypeId} {size n0 bo : Nat} {w : World} {n : Nat} {xs : List Value} {M M' : Nat → Prop} {W : World} (h : OutI tS tE size n0 bo w n xs M W) (h1 : ∀ k, M k → M' k) (h2 : ∀ k, M' k → k < W.heap.size ∧ n0 ≤ k) : OutI tS tE size n0 bo w n xs M' W := by
  obtain ⟨v, hv, hr, hb, hvm, hbm, -⟩ := h
  exact ⟨v, hv, hr, hb, fun k hk => h1 k (hvm k hk), h1 _ hbm, h2⟩

/-- The cells of an owned row, whatever their size. -/
theorem Reads.of_row {W : World} {n₀ : Nat} {e : TypeId} {size : Nat} {v : Value} {n : Nat} {xs : List Value} {f : Nat → Value} (h : W.ownsRow n₀ e size v n xs) (hf : ∀ i, i < n * size → xs[i]? = some (f i)) :
    ∃ a cap, v = .slice a n cap ∧ n ≤ cap ∧ Reads W a (n * size) f ∧ (∀ p, a = some p → n₀ ≤ p.block) := by
  rcases h.2 with ⟨rfl, h0⟩ | ⟨g, cap, cur, rfl, hb, hg, hn, hc, hs, ht⟩
  · exact ⟨none, 0, by rw [h0], by omega, .inl (by rw [h0, Nat.zero_mul]), fun p hp => by cases hp⟩
  · refine ⟨_, cap, rfl, hn, .inr ⟨g, 0, rfl, (Array.getElem?_eq_some_iff.1 hg).1, fun i hi => ?_⟩, fun p hp => by cases hp; exact hb⟩
    have hcell := World.ownsRow.cellAt (w := W) (base := n₀) (e := e) (size := size) (g := g) (cap := cap) h i hi
    rw [Nat.zero_add, hcell]
    exact hf i hi

theorem boxedTo {W W' : World} {B : Nat} {t : TypeId} {v : Value} (h : Boxed W B t v) (hb : Below W.heap.size W W') : Boxed W' B t v := (hb.block B h.lt).trans h
theorem upd_app {W w1 : World} {n₀ B : Nat} {e : TypeId} {size : Nat} {v v' : Value} {m : Nat} {ys : List Value} {M : Nat → Prop}
    (hM : ∀ k, M k → k < W.heap.size) (hMB : M B) (hMv : ∀ k, v.ownBlock = some k → M k)
    (hown' : w1.ownsRow n₀ e size v' m ys) (hgrow : W.grownBy w1 v.ownBlock) (hwhere : v'.ownBlock = v.ownBlock ∨ v'.ownBlock = some W.heap.size) :
    Upd M (fun k => M k ∨ v'.ownBlock = some k) W (w1.setCell ⟨B, 0, none⟩ v') := by
  have hsz := hgrow.size
  have hss : (w1.setCell ⟨B, 0, none⟩ v').heap.size = w1.heap.size := by simp [World.setCell]
  refine ⟨hgrow.os, hgrow.tape, hgrow.output, by omega, fun k hk hm => ?_, fun k hk => ?_, fun k hk => ?_⟩
  · rw [Below.heap_setCell _ _ _ _ (show k ≠ B from fun e => hm (by rw [e]; exact hMB)), hgrow.block k hk (fun e => hm (hMv k e.symm))]
  · rcases hk with hk | hk
    · exact .inl hk
    · rcases hwhere with h | h
      · exact .inl (hMv k (h ▸ hk))
      · rw [h] at hk; cases hk; exact .inr (Nat.le_refl _)
  · rw [hss]
    rcases hk with hk | hk
    · have := hM k hk; omega
    · exact (hown'.lt k hk).2
theorem Blk.news {W : World} {b : Nat} {cs : Array Value} (h : Blk W b cs) : ∀ j u, cs.toList[j]? = some u → W.cell? ((⟨b, 0, none⟩ : Addr).add j) = some u := by
  intro j u hj
  have e : (⟨b, 0, none⟩ : Addr).add j = ⟨b, j, none⟩ := by unfold Addr.add; split <;> simp_all
  rw [e, h.2.1 j, ← hj, Array.getElem?_toList]

/-- A box's slice has been appended to, and stored: the box holds the longer one. -/
theorem OutI.app {tS tE : TypeId} {size n0 bo : Nat} {w W W1 w4 : World} {n m : Nat} {xs ys : List Value} {M : Nat → Prop} {v v' : Value} (hte : tS ≠ tE)
    (hv : Boxed W bo tS v) (hrow : W.ownsRow n0 tE size v n xs) (hb : Below n0 w W) (hvm : ∀ k, v.ownBlock = some k → M k) (hbm : M bo) (hfit : ∀ k, M k → k < W.heap.size ∧ n0 ≤ k)
    (h1 : Below W.heap.size W W1) (hown' : w4.ownsRow n0 tE size v' m ys) (hgrow : W1.grownBy w4 v.ownBlock) (hwhere : v'.ownBlock = v.ownBlock ∨ v'.ownBlock = some W1.heap.size) :
    ∃ M', OutI tS tE size n0 bo w m ys M' (w4.setCell ⟨bo, 0, none⟩ v') ∧ Upd M M' W (w4.setCell ⟨bo, 0, none⟩ v') := by
  have hv1 := (boxedTo hv h1).kept hgrow (hv.not_row hte hrow)
  have hu1 := Upd.of_below (fun k hk => (hfit k hk).1) h1
  have hu2 := upd_app hu1.fit hbm hvm hown' hgrow hwhere
  have hu := hu1.trans hu2
  refine ⟨_, ⟨v', hv1.set _, ?_, hb.trans (hu.below (by have := hrow; have := (hfit bo hbm); omega) (fun k hk => (hfit k hk).2)), fun k hk => .inr hk, .inl hbm, fun k hk => ⟨hu.fit k hk, ?_⟩⟩, hu⟩
  · exact hown'.kept (grownBy_setCell' w4 bo _) (.inr (hv1.not_row hte hown').symm)
  · rcases hk with hk | hk
    · exact (hfit k hk).2
    · exact (hown'.lt k hk).1

end Go.Proofs.Ytjieojkfpoiabaa

