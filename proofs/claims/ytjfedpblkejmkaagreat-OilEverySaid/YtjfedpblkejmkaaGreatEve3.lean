/-
  Texts of this claim, in their build order: A9 A10 B2 C1.
-/
import Derived.Test.YtjfedpblkejmkaaGreatEve2

/-
  ErrorOf of package hybrid.
-/
namespace Go.Proofs.YtjfedpblkejmkaaGreat
open Go.RowKit
def stepWay (s : List Int × List Int) : Int := gi s.2 0 - gi s.1 1
def stepErr (x : HT) (s : List Int × List Int) : Int := x.s * (cmdV x s.1 x.dl.toNat - gi s.1 0) * stepWay s
def stepWide (off : Int) (s : List Int × List Int) : Int := off * sizeI (stepWay s)
def sumE (f : List Int × List Int → Int) (l : List (List Int × List Int)) : Int := (l.map f).sum

theorem Blk.agree {B : Nat} {M : Nat → Prop} {W1 W2 : World} {b : Nat} {cs : Array Value} (h : Blk W1 b cs) (hag : Agree B M W1 W2) (hb : M b ∨ b < B) : Blk W2 b cs := by
  have hh : W2.heap[b]? = W1.heap[b]? := hb.elim (hag.same b h.1) (hag.low b)
  exact ⟨Nat.lt_of_lt_of_le h.1 hag.size, fun o => (World.cell?_of_block (w := W1) (a := ⟨b, o, none⟩) hh).trans (h.2.1 o), fun o => (World.frozen?_of_block (w := W1) (a := ⟨b, o, none⟩) hh).trans (h.2.2 o)⟩

theorem four (l : List Int) (h : l.length = 4) : l = [gi l 0, gi l 1, gi l 2, gi l 3] := by
  match l, h with
  | [a, b, c, d], _ => rfl

end Go.Proofs.YtjfedpblkejmkaaGreat

/-
  ErrorOf of package hybrid, where there is no error.
-/
namespace Go.Proofs.YtjfedpblkejmkaaGreat
open Go.RowKit
attribute [local go_sem] Oper.semAt_some

/-- What the body of ErrorOf's loop has made. b: the first block of the loop's own variables; S: the heap's size where the loop begins. -/
structure ErrI (x : HT) (off : Int) (w : World) (b S : Nat) (pre : List (List Int × List Int)) (M : Nat → Prop) (W : World) : Prop where
  sum : Blk W (b + 1) #[.int .i64 (sumE (stepErr x) pre)]
  wide : Blk W (b + 2) #[.int .i64 (sumE (stepWide off) pre)]
  m1 : M (b + 1)
  m2 : M (b + 2)
  fit : ∀ k, M k → k < W.heap.size ∧ (k = b + 1 ∨ k = b + 2 ∨ S ≤ k)
  k0 : Blk W w.heap.size x.cells
  k1 : Blk W (w.heap.size + 1) #[.int .i64 off]
  k2 : Blk W (w.heap.size + 2) #[.int .i64 0, .int .i64 0]
  k9 : Blk W b x.cells
  below : Below w.heap.size w W

theorem ErrI.agree {x : HT} {off : Int} {w : World} {b S : Nat} {pre : List (List Int × List Int)} {M : Nat → Prop} {W1 W2 : World} (h : ErrI x off w b S pre M W1) (hag : Agree S M W1 W2) (hb : w.heap.size + 3 ≤ b) (hS : b < S) : ErrI x off w b S pre M W2 :=
  ⟨h.sum.agree hag (.inl h.m1), h.wide.agree hag (.inl h.m2), h.m1, h.m2, fun k hk => ⟨Nat.lt_of_lt_of_le (h.fit k hk).1 hag.size, (h.fit k hk).2⟩,
    h.k0.agree hag (.inr (by omega)), h.k1.agree hag (.inr (by omega)), h.k2.agree hag (.inr (by omega)), h.k9.agree hag (.inr (by omega)), h.below.trans (hag.below.mono (by omega))⟩
theorem ErrI.next {x : HT} {off : Int} {w : World} {b S : Nat} {pre : List (List Int × List Int)} {s : List Int × List Int} {M : Nat → Prop} {W W1 : World} (h : ErrI x off w b S pre M W) (hb1 : Below W.heap.size W W1) (hb : w.heap.size + 3 ≤ b) (hS : b + 5 ≤ S) {v1 v2 : Int}
    (h1 : v1 = sumE (stepErr x) (pre ++ [s])) (h2 : v2 = sumE (stepWide off) (pre ++ [s])) :
    ErrI x off w b S (pre ++ [s]) M ((W1.setCell ⟨b + 1, 0, none⟩ (.int .i64 v1)).setCell ⟨b + 1 + 1, 0, none⟩ (.int .i64 v2)) ∧ Upd M M W ((W1.setCell ⟨b + 1, 0, none⟩ (.int .i64 v1)).setCell ⟨b + 1 + 1, 0, none⟩ (.int .i64 v2)) := by
  have hu1 := Upd.of_below (fun k hk => (h.fit k hk).1) hb1
  have hu2 := Upd.setCell hu1.fit ⟨b + 1, 0, none⟩ (.int .i64 v1) h.m1
  have hu3 := Upd.setCell hu2.fit ⟨b + 1 + 1, 0, none⟩ (.int .i64 v2) h.m2
  have hu := (hu1.trans hu2).trans hu3
  have hn : ∀ k, k < b + 1 → ¬ M k := fun k hk hm => by rcases (h.fit k hm).2 with h | h | h <;> omega
  subst h1 h2
  refine ⟨⟨?_, ?_, h.m1, h.m2, fun k hk => ⟨hu.fit k hk, (h.fit k hk).2⟩, h.k0.upd hu (hn _ (by omega)), h.k1.upd hu (hn _ (by omega)), h.k2.upd hu (hn _ (by omega)), h.k9.upd hu (hn _ (by omega)), h.below.trans (hu.below (by have := h.k2.1; omega) (fun k hk => by rcases (h.fit k hk).2 with h | h | h <;> omega))⟩, hu⟩
  · exact ((h.sum.to hb1).set 0 _).other (p := ⟨b + 1 + 1, 0, none⟩) (by dsimp only; omega) _
  · exact ((h.wide.to hb1).other (p := ⟨b + 1, 0, none⟩) (by dsimp only; omega) _).set 0 _

end Go.Proofs.YtjfedpblkejmkaaGreat

/-
  The reference's next state.
-/
namespace Go.Proofs.YtjfedpblkejmkaaGreat
open Go.RowKit

def nextR (st : List Int) (n : Int) : List Int := n :: st.take (st.length - 1)

theorem Reads.of_owns' {W : World} {n₀ : Nat} {e : TypeId} {v : Value} {zs : List Int} (h : W.ownsRow n₀ e 1 v zs.length (zs.map fun z => Value.int .i64 z)) :
    ∃ a cap, v = .slice a zs.length cap ∧ zs.length ≤ cap ∧ Reads W a zs.length (ints zs) ∧ ∀ p, a = some p → n₀ ≤ p.block := by
  obtain ⟨a, cap, rfl, hr⟩ := Reads.of_owns h
  rcases h.2 with ⟨e, h0⟩ | ⟨g, cap', cur, e, hb, hg, hn, -⟩
  · injection e with e1 _ _; exact ⟨a, cap, rfl, by omega, hr, fun p hp => by rw [e1] at hp; cases hp⟩
  · cases e; exact ⟨_, _, rfl, hn, hr, fun p hp => by cases hp; exact hb⟩

/-- The elements of a slice, as the copying of them asks for them. -/
theorem Reads.news {W : World} {b off m : Nat} {zs : List Int} (hc : ∀ i, i < m → W.cell? ⟨b, off + i, none⟩ = some (ints zs i)) (hm : m ≤ zs.length) :
    ∀ j u, ((zs.take m).map fun z => Value.int .i64 z)[j]? = some u → W.cell? ((⟨b, off, none⟩ : Addr).add j) = some u := by
  intro j u hj
  have hjl : j < ((zs.take m).map fun z => Value.int .i64 z).length := (List.getElem?_eq_some_iff.1 hj).1
  simp at hjl
  have e : (⟨b, off, none⟩ : Addr).add j = ⟨b, off + j, none⟩ := by unfold Addr.add; split <;> simp_all
  rw [e, hc j (by omega), ← hj]
  have h1 : j < m := by omega
  have h2 : j < zs.length := by omega
  rw [List.getElem?_map, List.getElem?_take, if_pos h1, List.getElem?_eq_getElem h2]
  simp [ints, gi, h2]

theorem ones (l : List Int) : ∀ u ∈ (l.map fun z => Value.int .i64 z), u.oneCell' = true := by
  intro u hu
  obtain ⟨z, _, rfl⟩ := List.mem_map.1 hu
  rfl

end Go.Proofs.YtjfedpblkejmkaaGreat

/-
  The helpers of package ductilitybase: Ints, CopyInts, Fracs.
-/
namespace Go.Proofs.YtjfedpblkejmkaaGreat
open Go.RowKit

theorem gi_ext {l m : List Int} (h : l.length = m.length) (hg : ∀ i, i < l.length → gi l i = gi m i) : l = m := by
  apply List.ext_getElem h
  intro i h1 h2
  have := hg i h1
  rwa [gi_lt h1, gi_lt h2] at this

set_option maxHeartbeats 400000 in
set_option maxRecDepth 100000 in
theorem Ints_any (zs ys : List Int) (a b : Option Addr) (ca cb : Nat) (w : World) (hlz : zs.length ≤ maxLen) (hra : Reads w a zs.length (ints zs)) (hrb : Reads w b ys.length (ints ys)) :
    Calls Tryz.prog 78 #[.slice a zs.length ca, .slice b ys.length cb] w fun e w' => e = .returned (.bool (decide (zs = ys))) ∧ Below w.heap.size w w' := by
  unfold maxLen at hlz
  have HA := Lib.hid hra
  have HB := Lib.hid hrb
  clear hra hrb
  by_cases hl : zs.length = ys.length
  · have HL := Lib.hid hl
    have hl1 : zs.length ≤ ys.length := by omega
    have hl2 : ys.length ≤ zs.length := by omega
    clear hl
    go_enter Tryz.func78, Tryz.ntmps78
    go_wp2_with fail
    go_loopw [5] (fun i wr => ∃ k : Nat, k ≤ zs.length ∧ i = .int .i64 k ∧ Hid (∀ j, j < k → gi zs j = gi ys j) ∧ Hid (Below w.heap.size w wr)) (fun i _ => zs.length - (intOf i).toNat)
    case atStart => exact ⟨0, Nat.zero_le _, rfl, Lib.hid (by intro j h; omega), Lib.hid (bSelf w)⟩
    case round =>
      obtain ⟨k, hk, rfl, hp, hB⟩ := hrel
      by_cases hlt : k < zs.length
      · have hlt2 : k < ys.length := by omega
        obtain ⟨ba, oa, rfl, hba, hca⟩ := (HA.out.to hB.out).at hlt
        obtain ⟨bb, ob, rfl, hbb, hcb⟩ := (HB.out.to hB.out).at hlt2
        have h1 : Hid (wr.cell? ⟨ba, oa + k, none⟩ = some (.int .i64 (gi zs k))) := Lib.hid (hca k hlt)
        have h2 : Hid (wr.cell? ⟨bb, ob + k, none⟩ = some (.int .i64 (gi ys k))) := Lib.hid (hcb k hlt2)
        clear hca hcb
        by_cases he : gi zs k = gi ys k
        · have HE := Lib.hid he
          clear he
          go_wp2_with fail
          refine wp_region_quiet_all (fun w' => Below (World.heap wr).size (wr) w') (by kernel_rfl) (by kernel_rfl) (Below.refl _ _).drew ?_
          repeat (first | (refine wpQuiet_no (by rfl) ?_; (simp only [Act.put, List.setIfInBounds_toArray, List.set_cons_zero, List.set_cons_succ])) | (refine wpQuiet_yes (by rfl) ?_; apply Exists.intro; refine ⟨fun w1 hb1 => ?_, ?_⟩; (focus (((have k1 := (hb1.cell (p := ⟨ba, oa + k, none⟩) hba).trans h1.out; have k2 := (hb1.cell (p := ⟨bb, ob + k, none⟩) hbb).trans h2.out); have hb1 := Lib.hid hb1; go_simp); (try (go_bits; try go_simp)); (try (rw [if_pos (by omega)]; try go_simp)); (first | done | (fail) | (with_reducible rfl) | exact rfl))); (simp only [Act.put, List.setIfInBounds_toArray, List.set_cons_zero, List.set_cons_succ])))
          refine wpQuiet_nil ?_
          intro w1 hb1
          have e : (gi zs k != gi ys k) = false := by simp [HE.out]
          go_wp2_with fail
          go_roundw
          case rel =>
            refine ⟨k + 1, by omega, by go_num, Lib.hid (fun j hj => ?_), Lib.hid (bThen hB.out hb1)⟩
            by_cases h : j = k
            · subst h; exact HE.out
            · exact hp.out j (by omega)
          case measure => simp [intOf]; omega
        · have HE := Lib.hid he
          clear he
          go_wp2_with fail
          refine wp_region_quiet_all (fun w' => Below (World.heap wr).size (wr) w') (by kernel_rfl) (by kernel_rfl) (Below.refl _ _).drew ?_
          repeat (first | (refine wpQuiet_no (by rfl) ?_; (simp only [Act.put, List.setIfInBounds_toArray, List.set_cons_zero, List.set_cons_succ])) | (refine wpQuiet_yes (by rfl) ?_; apply Exists.intro; refine ⟨fun w1 hb1 => ?_, ?_⟩; (focus (((have k1 := (hb1.cell (p := ⟨ba, oa + k, none⟩) hba).trans h1.out; have k2 := (hb1.cell (p := ⟨bb, ob + k, none⟩) hbb).trans h2.out); have hb1 := Lib.hid hb1; go_simp); (try (go_bits; try go_simp)); (try (rw [if_pos (by omega)]; try go_simp)); (first | done | (fail) | (with_reducible rfl) | exact rfl))); (simp only [Act.put, List.setIfInBounds_toArray, List.set_cons_zero, List.set_cons_succ])))
          refine wpQuiet_nil ?_
          intro w1 hb1
          have e : (gi zs k != gi ys k) = true := by simp [HE.out]
          go_wp2_with fail
          go_ret
          exact ⟨ret_bool (by have : ¬ zs = ys := fun h => HE.out (by rw [h]); simp [this]), bThen hB.out hb1⟩
      · have : k = zs.length := by omega
        subst this
        go_wp2_with fail
        go_ret
        exact ⟨ret_bool (by have : zs = ys := gi_ext HL.out hp.out; simp [this]), hB.out⟩
  · have HL := Lib.hid hl
    have h1 : ((zs.length : Int) != ys.length) = true := by simp; omega
    clear hl
    go_enter Tryz.func78, Tryz.ntmps78
    go_wp2_with fail
    go_ret
    exact ⟨ret_bool (by have : ¬ zs = ys := fun h => HL.out (by rw [h]); simp [this]), bSelf w⟩

theorem Reads.news' {W : World} {ad : Addr} {zs : List Int} (h : Reads W (some ad) zs.length (ints zs)) :
    ∀ j u, (zs.map fun z => Value.int .i64 z)[j]? = some u → W.cell? (ad.add j) = some u := by
  intro j u hj
  have hjl : j < (zs.map fun z => Value.int .i64 z).length := (List.getElem?_eq_some_iff.1 hj).1
  simp at hjl
  obtain ⟨b, off, e, hb, hc⟩ := h.at hjl
  cases e
  have := Reads.news (W := W) (b := b) (off := off) (m := zs.length) hc (Nat.le_refl _) j u
  rw [List.take_length] at this
  exact this hj

set_option maxHeartbeats 400000 in
set_option maxRecDepth 100000 in
theorem CopyInts_any (zs : List Int) (a : Option Addr) (cap : Nat) (w : World) (hfew : zs.length ≤ 100000) (hr : Reads w a zs.length (ints zs)) :
    Calls Tryz.prog 26 #[.slice a zs.length cap] w fun e w' => ∃ a' cap', e = .returned (.slice a' zs.length cap') ∧ zs.length ≤ cap' ∧ Reads w' a' zs.length (ints zs) ∧ Below w.heap.size w w' ∧ ∀ p, a' = some p → w.heap.size ≤ p.block := by
  cases a with
  | none =>
    have h0 : zs.length = 0 := by
      rcases hr with h | ⟨b, off, e, -⟩
      · exact h
      · cases e
    rw [h0]
    go_enter Tryz.func26, Tryz.ntmps26
    go_wp2_with fail
    go_ret
    exact ⟨_, _, rfl, by omega, .inl rfl, bAlloc (bSelf w) _, fun p hp => by cases hp; exact Nat.le_refl _⟩
  | some ad =>
    have HR := Lib.hid hr
    clear hr
    have HN := Lib.hid (Reads.news' (HR.out.alloc (.cells #[] 3)))
    have HF := Lib.hid hfew
    go_enter Tryz.func26, Tryz.ntmps26
    go_wp2_with (at_builtin; refine wpList_app w.heap.size rtInt rfl (.tmp 3) (.tmp 4) rfl (.slice (some ⟨w.heap.size, 0, none⟩) 0 0) 0 [] rfl (World.ownsRow_lit w #[] 0 (Nat.le_refl _) (by decide) rfl) ad zs.length cap (zs.map fun z => Value.int .i64 z) rfl (by simp) HN.out (ones _) (by unfold maxLen; omega) (by omega) (by simp) ?_; intro v' w2 hown' hgrow _ hwhere; have HO := Lib.hid hown'; have HBB : Hid (Below w.heap.size w w2) := Lib.hid ((bAlloc (bSelf w) _).grown hgrow (by simp) (fun k e => by cases e; exact Nat.le_refl _)); clear hown' hgrow hwhere)
    go_ret
    have hrow := HO.out
    rw [Nat.zero_add, List.nil_append] at hrow
    obtain ⟨a', cap', rfl, hcp, hrd, hfr⟩ := Reads.of_owns' hrow
    exact ⟨a', cap', rfl, hcp, hrd, HBB.out, hfr⟩

end Go.Proofs.YtjfedpblkejmkaaGreat

