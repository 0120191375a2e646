/-
  Texts of this claim, in their build order: B2 C1.
-/
import Derived.Test.YtfdlhhinomjakaaHel10
import Derived.Test.YtfdlhhinomjakaaHel0

namespace Go.Proofs.Ytfdlhhinomjakaa
section
open Go.RowKit

def nextR (st : List Int) (n : Int) : List Int := n :: st.take (st.length - 1)

theorem Reads.of_owns' {W : World} {n₀ : Nat} {e : TypeId} {v : Value} {zs : List Int} (h : W.ownsRow n₀ e 1 v zs.length (zs.map fun z => Value.int .i64 z)) :
    ∃ a cap, v = .slice a zs.length cap ∧ zs.length ≤ cap ∧ Reads W a zs.length (ints zs) ∧ ∀ p, a = some p → n₀ ≤ p.block := by
  obtain ⟨a, cap, rfl, hr⟩ := Reads.of_owns h
  rcases h.2 with ⟨e, h0⟩ | ⟨g, cap', cur, e, hb, hg, hn, -⟩
  · injection e with e1 _ _; exact ⟨a, cap, rfl, by omega, hr, fun p hp => by rw [e1] at hp; cases hp⟩
  · cases e; exact ⟨_, _, rfl, hn, hr, fun p hp => by cases hp; exact hb⟩

/-- The elements of a slice, as the copying of them asks for them. -/
theorem Reads.news {W : World} {b off m : Nat} {zs : List Int} (hc : ∀ i, i < m → W.cell? ⟨b, off + i, none⟩ = some (ints zs i)) (hm : m ≤ zs.length) :
    ∀ j u, ((zs.take m).map fun z => Value.int .i64 z)[j]? = some u → W.cell? ((⟨b, off, none⟩ : Addr).add j) = some u := by
  intro j u hj
  have hjl : j < ((zs.take m).map fun z => Value.int .i64 z).length := (List.getElem?_eq_some_iff.1 hj).1
  simp at hjl
  have e : (⟨b, off, none⟩ : Addr).add j = ⟨b, off + j, none⟩ := by unfold Addr.add; split <;> simp_all
  rw [e, hc j (by omega), ← hj]
  have h1 : j < m := by omega
  have h2 : j < zs.length := by omega
  rw [List.getElem?_map, List.getElem?_take, if_pos h1, List.getElem?_eq_getElem h2]
  simp [ints, gi, h2]

theorem ones (l : List Int) : ∀ u ∈ (l.map fun z => Value.int .i64 z), u.oneCell' = true := by
  intro u hu
  obtain ⟨z, _, rfl⟩ := List.mem_map.1 hu
  rfl
end
section
set_option maxRecDepth 100000
set_option maxHeartbeats 400000
open Go.RowKit

theorem gi_ext {l m : List Int} (h : l.length = m.length) (hg : ∀ i, i < l.length → gi l i = gi m i) : l = m := by
  apply List.ext_getElem h
  intro i h1 h2
  have := hg i h1
  rwa [gi_lt h1, gi_lt h2] at this

theorem Ints_any (zs ys : List Int) (a b : Option Addr) (ca cb : Nat) (w : World) (hlz : zs.length ≤ maxLen) (hra : Reads w a zs.length (ints zs)) (hrb : Reads w b ys.length (ints ys)) :
    Calls Try.prog 16 #[.slice a zs.length ca, .slice b ys.length cb] w fun e w' => e = .returned (.bool (decide (zs = ys))) ∧ Below w.heap.size w w' := by
  unfold maxLen at hlz
  have HA := zH hra
  have HB := zH hrb
  clear hra hrb
  by_cases hl : zs.length = ys.length
  · have HL := zH hl
    have hl1 : zs.length ≤ ys.length := by omega
    have hl2 : ys.length ≤ zs.length := by omega
    clear hl
    go_enter Try.func16, Try.ntmps16
    go_wp2_with fail
    go_loopw [5] (fun i wr => ∃ k : Nat, k ≤ zs.length ∧ i = .int .i64 k ∧ Hid (∀ j, j < k → gi zs j = gi ys j) ∧ Hid (Below w.heap.size w wr)) (fun i _ => zs.length - (intOf i).toNat)
    case atStart => exact ⟨0, Nat.zero_le _, rfl, zH (by intro j h; omega), zH (bSelf w)⟩
    case round =>
      obtain ⟨k, hk, rfl, hp, hB⟩ := hrel
      by_cases hlt : k < zs.length
      · have hlt2 : k < ys.length := by omega
        obtain ⟨ba, oa, rfl, hba, hca⟩ := (HA.out.to hB.out).at hlt
        obtain ⟨bb, ob, rfl, hbb, hcb⟩ := (HB.out.to hB.out).at hlt2
        have h1 : Hid (wr.cell? ⟨ba, oa + k, none⟩ = some (.int .i64 (gi zs k))) := zH (hca k hlt)
        have h2 : Hid (wr.cell? ⟨bb, ob + k, none⟩ = some (.int .i64 (gi ys k))) := zH (hcb k hlt2)
        clear hca hcb
        by_cases he : gi zs k = gi ys k
        · have HE := zH he
          clear he
          go_wp2_with fail
          refine wp_region_quiet_all (fun w' => Below (World.heap wr).size (wr) w') (by kernel_rfl) (by kernel_rfl) (Below.refl _ _).drew ?_
          repeat (first | (refine wpQuiet_no (by rfl) ?_; (simp only [Act.put, zzT, zzO, zzS])) | (refine wpQuiet_yes (by rfl) ?_; apply Exists.intro; refine ⟨fun w1 hb1 => ?_, ?_⟩; (focus (((have k1 := (hb1.cell (p := ⟨ba, oa + k, none⟩) hba).trans h1.out; have k2 := (hb1.cell (p := ⟨bb, ob + k, none⟩) hbb).trans h2.out); have hb1 := zH hb1; go_simp); (try (go_bits; try go_simp)); (try (rw [if_pos (by omega)]; try go_simp)); (first | done | (with_reducible rfl) | exact rfl))); (simp only [Act.put, zzT, zzO, zzS])))
          refine wpQuiet_nil ?_
          intro w1 hb1
          have e : (gi zs k != gi ys k) = false := by simp [HE.out]
          go_wp2_with fail
          go_roundw
          case rel =>
            refine ⟨k + 1, by omega, by go_num, zH (fun j hj => ?_), zH (bThen hB.out hb1)⟩
            by_cases h : j = k
            · subst h; exact HE.out
            · exact hp.out j (by omega)
          case measure => simp [intOf]; omega
        · have HE := zH he
          clear he
          go_wp2_with fail
          refine wp_region_quiet_all (fun w' => Below (World.heap wr).size (wr) w') (by kernel_rfl) (by kernel_rfl) (Below.refl _ _).drew ?_
          repeat (first | (refine wpQuiet_no (by rfl) ?_; (simp only [Act.put, zzT, zzO, zzS])) | (refine wpQuiet_yes (by rfl) ?_; apply Exists.intro; refine ⟨fun w1 hb1 => ?_, ?_⟩; (focus (((have k1 := (hb1.cell (p := ⟨ba, oa + k, none⟩) hba).trans h1.out; have k2 := (hb1.cell (p := ⟨bb, ob + k, none⟩) hbb).trans h2.out); have hb1 := zH hb1; go_simp); (try (go_bits; try go_simp)); (try (rw [if_pos (by omega)]; try go_simp)); (first | done | (with_reducible rfl) | exact rfl))); (simp only [Act.put, zzT, zzO, zzS])))
          refine wpQuiet_nil ?_
          intro w1 hb1
          have e : (gi zs k != gi ys k) = true := by simp [HE.out]
          go_wp2_with fail
          go_ret
          exact ⟨ret_bool (by have : ¬ zs = ys := fun h => HE.out (by rw [h]); simp [this]), bThen hB.out hb1⟩
      · have : k = zs.length := by omega
        subst this
        go_wp2_with fail
        go_ret
        exact ⟨ret_bool (by have : zs = ys := gi_ext HL.out hp.out; simp [this]), hB.out⟩
  · have HL := zH hl
    have h1 : ((zs.length : Int) != ys.length) = true := by simp; omega
    clear hl
    go_enter Try.func16, Try.ntmps16
    go_wp2_with fail
    go_ret
    exact ⟨ret_bool (by have : ¬ zs = ys := fun h => HL.out (by rw [h]); simp [this]), bSelf w⟩

theorem Reads.news' {W : World} {ad : Addr} {zs : List Int} (h : Reads W (some ad) zs.length (ints zs)) :
    ∀ j u, (zs.map fun z => Value.int .i64 z)[j]? = some u → W.cell? (ad.add j) = some u := by
  intro j u hj
  have hjl : j < (zs.map fun z => Value.int .i64 z).length := (List.getElem?_eq_some_iff.1 hj).1
  simp at hjl
  obtain ⟨b, off, e, hb, hc⟩ := h.at hjl
  cases e
  have := Reads.news (W := W) (b := b) (off := off) (m := zs.length) hc (Nat.le_refl _) j u
  rw [List.take_length] at this
  exact this hj

theorem CopyInts_any (zs : List Int) (a : Option Addr) (cap : Nat) (w : World) (hfew : zs.length ≤ 100000) (hr : Reads w a zs.length (ints zs)) :
    Calls Try.prog 13 #[.slice a zs.length cap] w fun e w' => ∃ a' cap', e = .returned (.slice a' zs.length cap') ∧ zs.length ≤ cap' ∧ Reads w' a' zs.length (ints zs) ∧ Below w.heap.size w w' ∧ ∀ p, a' = some p → w.heap.size ≤ p.block := by
  cases a with
  | none =>
    have h0 : zs.length = 0 := by
      rcases hr with h | ⟨b, off, e, -⟩
      · exact h
      · cases e
    rw [h0]
    go_enter Try.func13, Try.ntmps13
    go_wp2_with fail
    go_ret
    exact ⟨_, _, rfl, by omega, .inl rfl, bAlloc (bSelf w) _, fun p hp => by cases hp; exact Nat.le_refl _⟩
  | some ad =>
    have HR := zH hr
    clear hr
    have HN := zH (Reads.news' (HR.out.alloc (.cells #[] 3)))
    have HF := zH hfew
    go_enter Try.func13, Try.ntmps13
    go_wp2_with (at_builtin; refine wpList_app w.heap.size rtInt rfl (.tmp 3) (.tmp 4) rfl (.slice (some ⟨w.heap.size, 0, none⟩) 0 0) 0 [] rfl (World.ownsRow_lit w #[] 0 (Nat.le_refl _) (by decide) rfl) ad zs.length cap (zs.map fun z => Value.int .i64 z) rfl (by simp) HN.out (ones _) (by unfold maxLen; omega) (by omega) (by simp) ?_; intro v' w2 hown' hgrow _ hwhere; have HO := zH hown'; have HBB : Hid (Below w.heap.size w w2) := zH ((bAlloc (bSelf w) _).grown hgrow (by simp) (fun k e => by cases e; exact Nat.le_refl _)); clear hown' hgrow hwhere)
    go_ret
    have hrow := HO.out
    rw [Nat.zero_add, List.nil_append] at hrow
    obtain ⟨a', cap', rfl, hcp, hrd, hfr⟩ := Reads.of_owns' hrow
    exact ⟨a', cap', rfl, hcp, hrd, HBB.out, hfr⟩
end
end Go.Proofs.Ytfdlhhinomjakaa
