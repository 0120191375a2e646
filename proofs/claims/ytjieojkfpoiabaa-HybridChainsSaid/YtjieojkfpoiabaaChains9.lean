/-
  Texts of this claim, in their build order: B2 C1.
-/
import Derived.Test.YtjieojkfpoiabaaChains8

/-
  The reference's next state.
-/
namespace Go.Proofs.Ytjieojkfpoiabaa
open Go.RowKit

def nextR (st : List Int) (n : Int) : List Int := n :: st.take (st.length - 1)

theorem Reads.of_owns' {W : World} {n₀ : Nat} {e : TypeId} {v : Value} {zs : List Int} (h : W.ownsRow n₀ e 1 v zs.length (zs.map fun z => Value.int .i64 z)) :
    ∃ a cap, v = .slice a zs.length cap ∧ zs.length ≤ cap ∧ Reads W a zs.length (ints zs) ∧ ∀ p, a = some p → n₀ ≤ p.block := by
  obtain ⟨a, cap, rfl, hr⟩ := Reads.of_owns h
  rcases h.2 with ⟨e, h0⟩ | ⟨g, cap', cur, e, hb, hg, hn, -⟩
  · injection e with e1 _ _; exact ⟨a, cap, rfl, by omega, hr, fun p hp => by rw [e1] at hp; cases hp⟩
  · cases e; exact ⟨_, _, rfl, hn, hr, fun p hp => by cases hp; exact hb⟩

/-- The elements of a slice, as the copying of them asks for them. -/
theorem Reads.news {W : World} {b off m : Nat} {zs : List Int} (hc : ∀ i, i < m → W.cell? ⟨b, off + i, none⟩ = some (ints zs i)) (hm : m ≤ zs.length) :
    ∀ j u, ((zs.take m).map fun z => Value.int .i64 z)[j]? = some u → W.cell? ((⟨b, off, none⟩ : Addr).add j) = some u := by
  intro j u hj
  have hjl : j < ((zs.take m).map fun z => Value.int .i64 z).length := (List.getElem?_eq_some_iff.1 hj).1
  simp at hjl
  have e : (⟨b, off, none⟩ : Addr).add j = ⟨b, off + j, none⟩ := by unfold Addr.add; split <;> simp_all
  rw [e, hc j (by omega), ← hj]
  have h1 : j < m := by omega
  have h2 : j < zs.length := by omega
  rw [List.getElem?_map, List.getElem?_take, if_pos h1, List.getElem?_eq_getElem h2]
  simp [ints, gi, h2]

theorem ones (l : List Int) : ∀ u ∈ (l.map fun z => Value.int .i64 z), u.oneCell' = true := by
  intro u hu
  obtain ⟨z, _, rfl⟩ := List.mem_map.1 hu
  rfl

def NextPost (x : HT) (st : List Int) (f : Int) (w : World) (e : Ending) (w' : World) : Prop :=
  ∃ a' cap', e = .returned (.tuple #[.slice a' st.length cap', .bool (inB x (nextV x st f))]) ∧ st.length ≤ cap' ∧ Reads w' a' st.length (ints (nextR st (nextV x st f))) ∧ Below w.heap.size w w' ∧ ∀ p, a' = some p → w.heap.size ≤ p.block

theorem cmdV_rbd (x : HT) (st : List Int) (hx : x.ok) (hs : RSt x st) : -15 ≤ cmdV x st x.dl.toNat ∧ cmdV x st x.dl.toNat ≤ 15 := by
  have h1 := hs.bd x.dl.toNat
  have h2 := hs.bd (x.dl.toNat + 1)
  have d1 := hx.dl1
  have d2 := hx.dl2
  have hp := mul_bd (a := x.dl) (b := gi st x.dl.toNat - gi st (x.dl.toNat + 1)) (A := 2) (B := 6) (by omega) d2 (by omega) (by omega)
  unfold cmdV
  cases x.cp <;> simp <;> omega

set_option maxHeartbeats 1600000 in
set_option maxRecDepth 100000 in
theorem rNext_any (x : HT) (st : List Int) (a : Option Addr) (cap : Nat) (f : Int) (w : World) (hx : x.ok) (hs : RSt x st) (hr : Reads w a st.length (ints st)) (hcap : st.length ≤ cap) (hf1 : -1000 ≤ f) (hf2 : f ≤ 1000) :
    Calls Try.prog 80 #[.agg x.cells, .slice a st.length cap, .int .i64 f] w (NextPost x st f w) := by

  have hl1 : st.length ≤ 4 := by have := hs.len; have := hx.dl2; omega
  have hl2 : 2 ≤ st.length := by have := hs.len; have := hx.dl1; omega
  have hl3 : 0 < st.length := by omega
  have hl4 : 1 < st.length := by omega
  have HR := Lib.hid hr
  obtain ⟨b, off, rfl, hb, hc⟩ := hr.at (k := 0) (by omega)
  have k1 : w.cell? ⟨b, off, none⟩ = some (.int .i64 (gi st 0)) := hc 0 (by omega)
  have k2 : w.cell? ⟨b, off + 1, none⟩ = some (.int .i64 (gi st 1)) := hc 1 (by omega)
  have b1 := hs.bd 0
  have b2 := hs.bd 1
  obtain ⟨l0, u0⟩ := b1
  obtain ⟨l1, u1⟩ := b2
  have hc' := cmdV_rbd x st hx hs
  obtain ⟨c1, c2⟩ := hc'
  have hp := mul_bd (a := x.d) (b := gi st 0 - gi st 1) (A := 1000) (B := 6) (by have := hx.d1; omega) hx.d2 (by omega) (by omega)
  obtain ⟨p1, p2⟩ := hp
  have hp := mul_bd (a := x.c) (b := gi st 0) (A := 1000) (B := 3) (by have := hx.c1; omega) hx.c2 (by omega) (by omega)
  obtain ⟨p3, p4⟩ := hp
  have hp := mul_bd (a := x.s) (b := cmdV x st x.dl.toNat) (A := 1000) (B := 15) (by have := hx.s1; omega) hx.s2 (by omega) (by omega)
  obtain ⟨p5, p6⟩ := hp
  have m1 := hx.m1
  have m2 := hx.m2
  have bb1 := hx.b1
  have bb2 := hx.b2
  clear hc hr
  go_enter Try.func80, Try.ntmps80
  go_wp2_with fail
  obtain ⟨W, hW⟩ : ∃ W, w.alloc (.cells x.cells 25) = W := ⟨_, rfl⟩
  rw [hW]
  have K0 : Hid (Blk W w.heap.size x.cells) := by subst hW; exact Blk.new _ _ _
  have HB : Hid (Below w.heap.size w W) := by subst hW; exact bAlloc (bSelf w) _
  have q1 : Hid (W.cell? ⟨b, off, none⟩ = some (.int .i64 (gi st 0))) := by subst hW; exact ((bAlloc (bSelf w) _).cell (p := ⟨b, off, none⟩) hb).trans k1
  have q2 : Hid (W.cell? ⟨b, off + 1, none⟩ = some (.int .i64 (gi st 1))) := by subst hW; exact ((bAlloc (bSelf w) _).cell (p := ⟨b, off + 1, none⟩) hb).trans k2
  have hbW : b < W.heap.size := by subst hW; simp; omega
  replace HR : Hid (Reads W (some ⟨b, off, none⟩) st.length (ints st)) := by subst hW; exact HR.out.alloc _
  clear hW k1 k2
  refine wp_region_quiet_all (fun w' => Below (World.heap W).size (W) w') (by kernel_rfl) (by kernel_rfl) (Below.refl _ _).drew ?_
  repeat (first | (refine wpQuiet_no (by rfl) ?_; (simp only [Act.put, List.setIfInBounds_toArray, List.set_cons_zero, List.set_cons_succ])) | (refine wpQuiet_yes (by rfl) ?_; apply Exists.intro; refine ⟨fun w1 hb1 => ?_, ?_⟩; (focus (((obtain ⟨-, k0, -⟩ := K0.out.to hb1; have k1 := (hb1.cell (p := ⟨b, off, none⟩) hbW).trans q1.out; have k2 := (hb1.cell (p := ⟨b, off + 1, none⟩) hbW).trans q2.out); have hb1 := Lib.hid hb1; go_simp); (try (go_bits; try go_simp)); (try (rw [if_pos (by omega)]; try go_simp)); (first | done | (((go_at_call 45); refine (rActuators_any x st _ cap _ hx hs (HR.out.to hb1.out)).mono ?_; rintro e w' ⟨rfl, hb⟩; exact ⟨rfl, bThen hb1.out hb⟩)) | (with_reducible rfl) | exact rfl))); (simp only [Act.put, List.setIfInBounds_toArray, List.set_cons_zero, List.set_cons_succ])))
  refine wpQuiet_nil ?_
  intro w1 hb1
  obtain ⟨pv, hpv⟩ : ∃ pv, f - x.d * (gi st 0 - gi st 1) - x.c * gi st 0 - x.s * cmdV x st x.dl.toNat = pv := ⟨_, rfl⟩
  have HPV : Hid (nextV x st f = 2 * gi st 0 - gi st 1 + pv / x.m) := by subst hpv; rfl
  have pb : -100000 ≤ pv ∧ pv ≤ 100000 := by omega
  rw [hpv]
  clear hpv
  have hq := ediv_bd pv x.m 100000 (by omega) (by omega) pb.1 pb.2
  obtain ⟨qb1, qb2⟩ := hq
  obtain ⟨pb1, pb2⟩ := pb
  clear p1 p2 p3 p4 p5 p6 c1 c2
  replace K0 := Lib.hid (K0.out.to hb1)
  replace q1 := Lib.hid ((hb1.cell (p := ⟨b, off, none⟩) hbW).trans q1.out)
  replace q2 := Lib.hid ((hb1.cell (p := ⟨b, off + 1, none⟩) hbW).trans q2.out)
  replace HR := Lib.hid (HR.out.to hb1)
  replace HB := Lib.hid (bThen HB.out hb1)
  replace hbW : b < w1.heap.size := Nat.lt_of_lt_of_le hbW hb1.size
  clear hb1 W
  obtain ⟨W, hW⟩ : ∃ W, w1 = W := ⟨_, rfl⟩
  subst hW
  go_wp2_with fail
  refine wp_region_quiet_all (fun w' => Below (World.heap w1).size (w1) w') (by kernel_rfl) (by kernel_rfl) (Below.refl _ _).drew ?_
  repeat (first | (refine wpQuiet_no (by rfl) ?_; (simp only [Act.put, List.setIfInBounds_toArray, List.set_cons_zero, List.set_cons_succ])) | (refine wpQuiet_yes (by rfl) ?_; apply Exists.intro; refine ⟨fun w1 hb1 => ?_, ?_⟩; (focus (((obtain ⟨-, k0, -⟩ := K0.out.to hb1; have k1 := (hb1.cell (p := ⟨b, off, none⟩) hbW).trans q1.out; have k2 := (hb1.cell (p := ⟨b, off + 1, none⟩) hbW).trans q2.out); have hb1 := Lib.hid hb1; go_simp); (try (go_bits; try go_simp)); (try (rw [if_pos (by omega)]; try go_simp)); (first | done | (((go_at_call 114); refine (bFloor_any _ _ _ (by omega) (by omega) (by omega) (by omega)).mono ?_; rintro e w' ⟨rfl, rfl⟩; exact ⟨rfl, hb1.out⟩)) | (with_reducible rfl) | exact rfl))); (simp only [Act.put, List.setIfInBounds_toArray, List.set_cons_zero, List.set_cons_succ])))
  refine wpQuiet_nil ?_
  intro w1 hb1
  obtain ⟨nv, hnv⟩ : ∃ nv, 2 * gi st 0 - gi st 1 + pv / x.m = nv := ⟨_, rfl⟩
  have HNV : Hid (nextV x st f = nv) := by rw [HPV.out]; exact hnv
  have nb : -200000 ≤ nv ∧ nv ≤ 200000 := by omega
  rw [hnv]
  clear hnv qb1 qb2 pb1 pb2
  obtain ⟨nb1, nb2⟩ := nb
  replace K0 := Lib.hid (K0.out.to hb1)
  replace HR := Lib.hid (HR.out.to hb1)
  replace HB := Lib.hid (bThen HB.out hb1)
  clear q1 q2
  have hsz : w.heap.size < w1.heap.size := K0.out.1
  have hcn := (bAlloc (bSelf w1) (.cells #[.int .i64 nv] 3))
  have HN : Hid (∀ i, i < st.length - 1 → (w1.alloc (.cells #[.int .i64 nv] 3)).cell? ⟨b, off + i, none⟩ = some (ints st i)) := by
    obtain ⟨b', off', e, hb', hc'⟩ := (HR.out.alloc (.cells #[.int .i64 nv] 3)).at (k := 0) (by omega)
    cases e
    exact Lib.hid (fun i hi => hc' i (by omega))
  clear hcn hb1
  go_wp2_with (at_builtin; refine wpList_app w.heap.size rtInt rfl (.tmp 52) (.tmp 57) rfl (.slice (some ⟨w1.heap.size, 0, none⟩) 1 1) 1 [.int .i64 nv] rfl (World.ownsRow_lit _ #[.int .i64 nv] 1 (by omega) (by decide) rfl) ⟨b, off, none⟩ (st.length - 1) cap ((st.take (st.length - 1)).map fun z => Value.int .i64 z) rfl (by simp) (Reads.news HN.out (by omega)) (ones _) (by unfold maxLen; omega) (by omega) (by simp; omega) ?_; intro v' w2 hown' hgrow _ hwhere; have HO := Lib.hid hown'; have HG := Lib.hid hgrow; have HBB : Hid (Below w1.heap.size w1 w2) := Lib.hid ((bAlloc (bSelf w1) _).grown hgrow (by simp) (fun k e => by cases e; exact Nat.le_refl _)); have K2 := K0.out.to HBB.out; obtain ⟨-, k2, -⟩ := K2; clear hown' hgrow hwhere)
  refine (bWithin_any _ _ _ _).mono ?_
  rintro e w' ⟨rfl, rfl⟩
  go_wp2_with fail
  go_ret2
  have hl : (nextR st nv).length = st.length := by simp [nextR]; omega
  have hrow := HO.out
  rw [show 1 + (st.length - 1) = (nextR st nv).length by rw [hl]; omega, show [Value.int .i64 nv] ++ ((st.take (st.length - 1)).map fun z => Value.int .i64 z) = (nextR st nv).map fun z => Value.int .i64 z from rfl] at hrow
  obtain ⟨a', cap', rfl, hcp, hrd, hfr⟩ := Reads.of_owns' hrow
  rw [hl] at hcp hrd
  refine ⟨a', cap', ?_, hcp, by rw [HNV.out]; exact hrd, bThen HB.out HBB.out, hfr⟩
  rw [HNV.out, hl]
  rfl

end Go.Proofs.Ytjieojkfpoiabaa

/-
  The helpers of package ductilitybase: Ints, CopyInts, Fracs.
-/
namespace Go.Proofs.Ytjieojkfpoiabaa
open Go.RowKit

theorem gi_ext {l m : List Int} (h : l.length = m.length) (hg : ∀ i, i < l.length → gi l i = gi m i) : l = m := by
  apply List.ext_getElem h
  intro i h1 h2
  have := hg i h1
  rwa [gi_lt h1, gi_lt h2] at this

set_option maxHeartbeats 400000 in
set_option maxRecDepth 100000 in
theorem Ints_any (zs ys : List Int) (a b : Option Addr) (ca cb : Nat) (w : World) (hlz : zs.length ≤ maxLen) (hra : Reads w a zs.length (ints zs)) (hrb : Reads w b ys.length (ints ys)) :
    Calls Try.prog 16 #[.slice a zs.length ca, .slice b ys.length cb] w fun e w' => e = .returned (.bool (decide (zs = ys))) ∧ Below w.heap.size w w' := by
  unfold maxLen at hlz
  have HA := Lib.hid hra
  have HB := Lib.hid hrb
  clear hra hrb
  by_cases hl : zs.length = ys.length
  · have HL := Lib.hid hl
    have hl1 : zs.length ≤ ys.length := by omega
    have hl2 : ys.length ≤ zs.length := by omega
    clear hl
    go_enter Try.func16, Try.ntmps16
    go_wp2_with fail
    go_loopw [5] (fun i wr => ∃ k : Nat, k ≤ zs.length ∧ i = .int .i64 k ∧ Hid (∀ j, j < k → gi zs j = gi ys j) ∧ Hid (Below w.heap.size w wr)) (fun i _ => zs.length - (intOf i).toNat)
    case atStart => exact ⟨0, Nat.zero_le _, rfl, Lib.hid (by intro j h; omega), Lib.hid (bSelf w)⟩
    case round =>
      obtain ⟨k, hk, rfl, hp, hB⟩ := hrel
      by_cases hlt : k < zs.length
      · have hlt2 : k < ys.length := by omega
        obtain ⟨ba, oa, rfl, hba, hca⟩ := (HA.out.to hB.out).at hlt
        obtain ⟨bb, ob, rfl, hbb, hcb⟩ := (HB.out.to hB.out).at hlt2
        have h1 : Hid (wr.cell? ⟨ba, oa + k, none⟩ = some (.int .i64 (gi zs k))) := Lib.hid (hca k hlt)
        have h2 : Hid (wr.cell? ⟨bb, ob + k, none⟩ = some (.int .i64 (gi ys k))) := Lib.hid (hcb k hlt2)
        clear hca hcb
        by_cases he : gi zs k = gi ys k
        · have HE := Lib.hid he
          clear he
          go_wp2_with fail
          refine wp_region_quiet_all (fun w' => Below (World.heap wr).size (wr) w') (by kernel_rfl) (by kernel_rfl) (Below.refl _ _).drew ?_
          repeat (first | (refine wpQuiet_no (by rfl) ?_; (simp only [Act.put, List.setIfInBounds_toArray, List.set_cons_zero, List.set_cons_succ])) | (refine wpQuiet_yes (by rfl) ?_; apply Exists.intro; refine ⟨fun w1 hb1 => ?_, ?_⟩; (focus (((have k1 := (hb1.cell (p := ⟨ba, oa + k, none⟩) hba).trans h1.out; have k2 := (hb1.cell (p := ⟨bb, ob + k, none⟩) hbb).trans h2.out); have hb1 := Lib.hid hb1; go_simp); (try (go_bits; try go_simp)); (try (rw [if_pos (by omega)]; try go_simp)); (first | done | (fail) | (with_reducible rfl) | exact rfl))); (simp only [Act.put, List.setIfInBounds_toArray, List.set_cons_zero, List.set_cons_succ])))
          refine wpQuiet_nil ?_
          intro w1 hb1
          have e : (gi zs k != gi ys k) = false := by simp [HE.out]
          go_wp2_with fail
          go_roundw
          case rel =>
            refine ⟨k + 1, by omega, by go_num, Lib.hid (fun j hj => ?_), Lib.hid (bThen hB.out hb1)⟩
            by_cases h : j = k
            · subst h; exact HE.out
            · exact hp.out j (by omega)
          case measure => simp [intOf]; omega
        · have HE := Lib.hid he
          clear he
          go_wp2_with fail
          refine wp_region_quiet_all (fun w' => Below (World.heap wr).size (wr) w') (by kernel_rfl) (by kernel_rfl) (Below.refl _ _).drew ?_
          repeat (first | (refine wpQuiet_no (by rfl) ?_; (simp only [Act.put, List.setIfInBounds_toArray, List.set_cons_zero, List.set_cons_succ])) | (refine wpQuiet_yes (by rfl) ?_; apply Exists.intro; refine ⟨fun w1 hb1 => ?_, ?_⟩; (focus (((have k1 := (hb1.cell (p := ⟨ba, oa + k, none⟩) hba).trans h1.out; have k2 := (hb1.cell (p := ⟨bb, ob + k, none⟩) hbb).trans h2.out); have hb1 := Lib.hid hb1; go_simp); (try (go_bits; try go_simp)); (try (rw [if_pos (by omega)]; try go_simp)); (first | done | (fail) | (with_reducible rfl) | exact rfl))); (simp only [Act.put, List.setIfInBounds_toArray, List.set_cons_zero, List.set_cons_succ])))
          refine wpQuiet_nil ?_
          intro w1 hb1
          have e : (gi zs k != gi ys k) = true := by simp [HE.out]
          go_wp2_with fail
          go_ret
          exact ⟨ret_bool (by have : ¬ zs = ys := fun h => HE.out (by rw [h]); simp [this]), bThen hB.out hb1⟩
      · have : k = zs.length := by omega
        subst this
        go_wp2_with fail
        go_ret
        exact ⟨ret_bool (by have : zs = ys := gi_ext HL.out hp.out; simp [this]), hB.out⟩
  · have HL := Lib.hid hl
    have h1 : ((zs.length : Int) != ys.length) = true := by simp; omega
    clear hl
    go_enter Try.func16, Try.ntmps16
    go_wp2_with fail
    go_ret
    exact ⟨ret_bool (by have : ¬ zs = ys := fun h => HL.out (by rw [h]); simp [this]), bSelf w⟩

theorem Reads.news' {W : World} {ad : Addr} {zs : List Int} (h : Reads W (some ad) zs.length (ints zs)) :
    ∀ j u, (zs.map fun z => Value.int .i64 z)[j]? = some u → W.cell? (ad.add j) = some u := by
  intro j u hj
  have hjl : j < (zs.map fun z => Value.int .i64 z).length := (List.getElem?_eq_some_iff.1 hj).1
  simp at hjl
  obtain ⟨b, off, e, hb, hc⟩ := h.at hjl
  cases e
  have := Reads.news (W := W) (b := b) (off := off) (m := zs.length) hc (Nat.le_refl _) j u
  rw [List.take_length] at this
  exact this hj

set_option maxHeartbeats 400000 in
set_option maxRecDepth 100000 in
theorem CopyInts_any (zs : List Int) (a : Option Addr) (cap : Nat) (w : World) (hfew : zs.length ≤ 100000) (hr : Reads w a zs.length (ints zs)) :
    Calls Try.prog 12 #[.slice a zs.length cap] w fun e w' => ∃ a' cap', e = .returned (.slice a' zs.length cap') ∧ zs.length ≤ cap' ∧ Reads w' a' zs.length (ints zs) ∧ Below w.heap.size w w' ∧ ∀ p, a' = some p → w.heap.size ≤ p.block := by
  cases a with
  | none =>
    have h0 : zs.length = 0 := by
      rcases hr with h | ⟨b, off, e, -⟩
      · exact h
      · cases e
    rw [h0]
    go_enter Try.func12, Try.ntmps12
    go_wp2_with fail
    go_ret
    exact ⟨_, _, rfl, by omega, .inl rfl, bAlloc (bSelf w) _, fun p hp => by cases hp; exact Nat.le_refl _⟩
  | some ad =>
    have HR := Lib.hid hr
    clear hr
    have HN := Lib.hid (Reads.news' (HR.out.alloc (.cells #[] 3)))
    have HF := Lib.hid hfew
    go_enter Try.func12, Try.ntmps12
    go_wp2_with (at_builtin; refine wpList_app w.heap.size rtInt rfl (.tmp 3) (.tmp 4) rfl (.slice (some ⟨w.heap.size, 0, none⟩) 0 0) 0 [] rfl (World.ownsRow_lit w #[] 0 (Nat.le_refl _) (by decide) rfl) ad zs.length cap (zs.map fun z => Value.int .i64 z) rfl (by simp) HN.out (ones _) (by unfold maxLen; omega) (by omega) (by simp) ?_; intro v' w2 hown' hgrow _ hwhere; have HO := Lib.hid hown'; have HBB : Hid (Below w.heap.size w w2) := Lib.hid ((bAlloc (bSelf w) _).grown hgrow (by simp) (fun k e => by cases e; exact Nat.le_refl _)); clear hown' hgrow hwhere)
    go_ret
    have hrow := HO.out
    rw [Nat.zero_add, List.nil_append] at hrow
    obtain ⟨a', cap', rfl, hcp, hrd, hfr⟩ := Reads.of_owns' hrow
    exact ⟨a', cap', rfl, hcp, hrd, HBB.out, hfr⟩

end Go.Proofs.Ytjieojkfpoiabaa

