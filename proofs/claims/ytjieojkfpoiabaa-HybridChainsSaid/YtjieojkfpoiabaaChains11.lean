/-
  Texts of this claim, in their build order: C3.
-/
import Derived.Test.YtjieojkfpoiabaaChains10

/-
  The reference's run.
-/
namespace Go.Proofs.Ytjieojkfpoiabaa
open Go.RowKit

def runR (x : HT) : List Int → List Int → List Int
  | _, [] => []
  | st, f :: zs => nextV x st f :: if inB x (nextV x st f) then runR x (nextR st (nextV x st f)) zs else []

theorem runR_len (x : HT) : ∀ (zs st : List Int), (runR x st zs).length ≤ zs.length
  | [], _ => Nat.le_refl _
  | f :: zs, st => by
    simp only [runR, List.length_cons]
    split
    · have := runR_len x zs (nextR st (nextV x st f)); omega
    · simp

theorem gi_nextR0 (st : List Int) (n : Int) : gi (nextR st n) 0 = n := rfl
theorem nextR_len {st : List Int} (n : Int) (h : 0 < st.length) : (nextR st n).length = st.length := by simp [nextR]; omega
theorem gi_nextR1 (st : List Int) (n : Int) (i : Nat) (h : i + 1 < st.length) : gi (nextR st n) (i + 1) = gi st i := by
  unfold gi nextR
  rw [List.getD_cons_succ, List.getD_eq_getElem?_getD, List.getD_eq_getElem?_getD, List.getElem?_take, if_pos (by omega)]
theorem gi_out (l : List Int) (i : Nat) (h : l.length ≤ i) : gi l i = 0 := by
  unfold gi; rw [List.getD_eq_getElem?_getD, List.getElem?_eq_none h]; rfl
theorem nextR_st {x : HT} {st : List Int} {n : Int} (hx : x.ok) (hs : RSt x st) (hb : inB x n = true) : RSt x (nextR st n) := by
  have h1 := hx.dl1
  have h2 := hs.len
  have h3 := hx.b2
  have hb' : -x.b ≤ n ∧ n ≤ x.b := by simpa [inB] using hb
  refine ⟨by rw [nextR_len n (by omega)]; exact h2, fun i => ?_⟩
  rcases i with _ | i
  · rw [gi_nextR0]; omega
  · by_cases hi : i + 1 < st.length
    · rw [gi_nextR1 st n i hi]; exact hs.bd i
    · rw [gi_out _ _ (by rw [nextR_len n (by omega)]; omega)]; omega

theorem owns_to {B : Nat} {e : TypeId} {k : Nat} {v : Value} {n : Nat} {xs : List Value} {w w' : World} (h : w.ownsRow B e k v n xs) (hb : Below w.heap.size w w') : w'.ownsRow B e k v n xs :=
  h.kept (row := none) ⟨hb.os, hb.tape, hb.output, hb.size, fun j hj _ => hb.block j hj⟩ (by cases hv : v.ownBlock <;> simp)

/-- What stands at the head of a round of a run: the state, what has been gathered, the memory. -/
structure RunSt (x : HT) (zs : List Int) (a : Option Addr) (n0 : Nat) (w : World) (k : Nat) (v : Value) (sa : Option Addr) (c : Nat) (st pre : List Int) (wr : World) : Prop where
  hk : k ≤ zs.length
  hc : st.length ≤ c
  hst : RSt x st
  rs : Reads wr sa st.length (ints st)
  all : 0 :: runR x (beg x) zs = pre ++ runR x st (zs.drop k)
  own : wr.ownsRow (n0 + 1) 3 1 v pre.length (pre.map fun z => Value.int .i64 z)
  len : pre.length = k + 1
  blk : Blk wr n0 x.cells
  bel : Below n0 w wr
  rz : Reads wr a zs.length (ints zs)

theorem RunSt.step {x : HT} {zs st pre : List Int} {f : Int} {k : Nat} (h : 0 :: runR x (beg x) zs = pre ++ runR x st (zs.drop k)) (hk : k < zs.length) (hf : gi zs k = f) :
    0 :: runR x (beg x) zs = (pre ++ [nextV x st f]) ++ (if inB x (nextV x st f) then runR x (nextR st (nextV x st f)) (zs.drop (k + 1)) else []) := by
  rw [h, gi_drop zs k hk, hf, List.append_assoc]; rfl

theorem Reads.grown {W W' : World} {a : Option Addr} {m : Nat} {f : Nat → Value} {row : Option Nat} (h : Reads W a m f) (hg : W.grownBy W' row) (hne : ∀ p, a = some p → some p.block ≠ row) : Reads W' a m f := by
  rcases h with h | ⟨b, off, rfl, hb, hc⟩
  · exact .inl h
  · refine .inr ⟨b, off, rfl, Nat.lt_of_lt_of_le hb hg.size, fun i hi => ?_⟩
    rw [← hc i hi]
    have := hg.block b hb (hne _ rfl)
    simp only [World.cell?, this]

def RunPost (l : List Int) (w : World) (e : Ending) (w' : World) : Prop :=
  ∃ a cap, e = .returned (.slice a l.length cap) ∧ Reads w' a l.length (ints l) ∧ Below w.heap.size w w'

set_option maxHeartbeats 1600000 in
set_option maxRecDepth 100000 in
theorem rRun_any (x : HT) (zs : List Int) (a : Option Addr) (cap : Nat) (w : World) (hx : x.ok) (hfew : zs.length ≤ 60) (hz : ∀ k, k < zs.length → -1000 ≤ gi zs k ∧ gi zs k ≤ 1000) (hr : Reads w a zs.length (ints zs)) :
    Calls Try.prog 17 #[.agg x.cells, .slice a zs.length cap] w (RunPost (0 :: runR x (beg x) zs) w) := by
  have HZ := Lib.hid hz
  have HR := Lib.hid hr
  clear hz hr
  go_enter Try.func17, Try.ntmps17
  go_wp2_with fail
  obtain ⟨W, hW⟩ : ∃ W, (w.alloc (.cells x.cells 25)).alloc (.cells #[.int .i64 0] 3) = W := ⟨_, rfl⟩
  rw [hW]
  have hB1 : w.heap.size + 2 = W.heap.size := by subst hW; simp
  have K0 : Hid (Blk W w.heap.size x.cells) := by subst hW; exact (Blk.new _ _ _).alloc _
  have HB : Hid (Below w.heap.size w W) := by subst hW; exact bAlloc (bAlloc (bSelf w) _) _
  have HO : Hid (W.ownsRow (w.heap.size + 1) 3 1 (.slice (some ⟨w.heap.size + 1, 0, none⟩) 1 1) 1 ([0].map fun z => Value.int .i64 z)) := by
    subst hW
    have := World.ownsRow_lit (base := w.heap.size + 1) (e := 3) (size := 1) (w.alloc (.cells x.cells 25)) #[.int .i64 0] 1 (by simp) (by decide) rfl
    simpa using Lib.hid this
  have HRW : Hid (Reads W a zs.length (ints zs)) := by subst hW; exact (HR.out.alloc _).alloc _
  clear hW
  obtain ⟨-, k0, -⟩ := K0.out
  go_wp2_with fail
  refine (Begin_any x _ hx).mono ?_
  rintro e w' ⟨a0, c0, rfl, hc0, hr0, hb0, -⟩
  have HS : Hid (RunSt x zs a w.heap.size w 0 (.slice (some ⟨w.heap.size + 1, 0, none⟩) 1 1) a0 c0 (beg x) [0] w') :=
    Lib.hid ⟨Nat.zero_le _, hc0, beg_st hx, hr0, rfl, owns_to HO.out hb0, rfl, K0.out.to hb0, bThen HB.out hb0, HRW.out.to hb0⟩
  clear hb0 hr0 HRW HO HB K0 k0 hB1
  go_wp2_with fail
  go_loopw [5, 6, 7, 8, 9] (fun v s i _ _ wr => ∃ (k c : Nat) (st pre : List Int) (sa : Option Addr), i = .int .i64 k ∧ s = .slice sa st.length c ∧ Hid (RunSt x zs a w.heap.size w k v sa c st pre wr)) (fun _ _ i _ _ _ => zs.length - (intOf i).toNat)
  case atStart => exact ⟨0, c0, _, _, a0, rfl, rfl, HS⟩
  case round =>
    obtain ⟨k, c, st, pre, sa, rfl, rfl, HI⟩ := hrel
    have hkk : k ≤ zs.length := HI.out.hk
    by_cases hlt : k < zs.length
    · obtain ⟨b, off, rfl, hb, hc⟩ := (HI.out.rz).at hlt
      have k1 : Hid (wr.cell? ⟨b, off + k, none⟩ = some (.int .i64 (gi zs k))) := Lib.hid (hc k hlt)
      have K0 := Lib.hid HI.out.blk
      clear hc
      have hf := HZ.out k hlt
      obtain ⟨hf1, hf2⟩ := hf
      have HSTP := Lib.hid (RunSt.step HI.out.all hlt rfl)
      have hln := HI.out.len
      have hst2 : 2 ≤ st.length := by have := HI.out.hst.len; have := hx.dl1; omega
      obtain ⟨nv, hnv⟩ : ∃ nv, nextV x st (gi zs k) = nv := ⟨_, rfl⟩
      rw [hnv] at HSTP
      have HNV := Lib.hid hnv
      clear hnv
      cases hin : inB x nv
      all_goals
        rw [hin] at HSTP
        have HIN := Lib.hid hin
        go_wp2_with fail
        refine wp_region_quiet_call 6 (fun w' => Below (World.heap wr).size (wr) w') (by kernel_rfl) (by kernel_rfl) rfl (Below.refl _ _).drew ?_
        simp only [List.take_succ_cons, List.take_zero, List.drop_succ_cons, List.drop_zero]
        repeat (first | (refine wpQuiet_no (by rfl) ?_; (simp only [Act.put, List.setIfInBounds_toArray, List.set_cons_zero, List.set_cons_succ])) | (refine wpQuiet_yes (by rfl) ?_; apply Exists.intro; refine ⟨fun w1 hb1 => ?_, ?_⟩; (focus (((obtain ⟨-, k0, -⟩ := K0.out.to hb1; have k2 := (hb1.cell (p := ⟨b, off + k, none⟩) hb).trans k1.out); have hb1 := Lib.hid hb1; go_simp); (try (go_bits; try go_simp)); (try (rw [if_pos (by omega)]; try go_simp)); (first | done | (fail) | (with_reducible rfl) | exact rfl))); (simp only [Act.put, List.setIfInBounds_toArray, List.set_cons_zero, List.set_cons_succ])))
        refine wpQuiet_nil ?_
        intro w1 hb1
        go_wp2_with fail
        refine (rNext_any x st sa c (gi zs k) _ hx HI.out.hst (HI.out.rs.to hb1) HI.out.hc hf1 hf2).mono ?_
        rintro e w2 ⟨a', cap', rfl, hcp, hrd, hbb, hfr⟩
        have HRD := Lib.hid hrd
        have HFR := Lib.hid hfr
        rw [HNV.out] at HRD ⊢
        rw [HIN.out]
        have hb2 := Lib.hid (bThen hb1 hbb)
        have hsz1 : wr.heap.size ≤ w1.heap.size := hb1.size
        clear hrd hbb hb1 hfr
        go_wp2_with fail
        refine ⟨fun w' => Below w2.heap.size w2 w', Below.refl _ _, ?_⟩
        repeat (first | (refine wpQuiet_no (by rfl) ?_; (simp only [Act.put, List.setIfInBounds_toArray, List.set_cons_zero, List.set_cons_succ])) | (refine wpQuiet_yes (by rfl) ?_; apply Exists.intro; refine ⟨fun w1 hb1 => ?_, ?_⟩; (focus ((skip; have hb1 := Lib.hid hb1; go_simp); (try (go_bits; try go_simp)); (try (rw [if_pos (by omega)]; try go_simp)); (first | done | (fail) | (with_reducible rfl) | exact rfl))); (simp only [Act.put, List.setIfInBounds_toArray, List.set_cons_zero, List.set_cons_succ])))
        refine wpQuiet_nil ?_
        intro w1 hb1
        replace hb2 := Lib.hid (bThen hb2.out hb1)
        replace HRD := Lib.hid (HRD.out.to hb1)
        have hlo := HI.out.own.lt
        have HOWN := Lib.hid ((owns_to HI.out.own hb2.out).alloc (.cells #[.int .i64 nv] 3))
        have hfr1 : Reads (w1.alloc (.cells #[.int .i64 nv] 3)) (some ⟨w1.heap.size, 0, none⟩) 1 (ints [nv]) := Reads.fresh w1 #[.int .i64 nv] 3 (ints [nv]) _ 1 rfl (fun i hi => by
          have : i = 0 := by omega
          subst this
          rfl)
        have HNN := Lib.hid (Reads.news' (zs := [nv]) hfr1)
        clear hfr1
        have HLO := Lib.hid hlo
        have hszw : w.heap.size < w1.heap.size := Nat.lt_of_lt_of_le HI.out.blk.1 hb2.out.size
        clear hlo hb1
        obtain ⟨b', off', rfl, hb', hc'⟩ := HRD.out.at (k := 0) (by omega)
        have k3 : w1.cell? ⟨b', off', none⟩ = some (.int .i64 nv) := hc' 0 (by omega)
        clear hc'
        go_wp2_with (at_builtin; refine wpList_app (w.heap.size + 1) rtInt rfl (.tmp 29) (.tmp 33) rfl _ _ _ rfl HOWN.out ⟨w1.heap.size, 0, none⟩ 1 1 [.int .i64 nv] rfl rfl HNN.out (ones [nv]) (by unfold maxLen; omega) (by omega) (by simp; omega) ?_; intro v' w4 hown' hgrow _ hwhere; have HO := Lib.hid hown'; have HG := Lib.hid hgrow; clear hown' hgrow hwhere)
        have HB4 : Hid (Below (w.heap.size + 1) wr w4) := Lib.hid ((((hb2.out.mono (show w.heap.size + 1 ≤ wr.heap.size from HI.out.blk.1)).alloc (show w.heap.size + 1 ≤ w1.heap.size from hszw) _)).grown HG.out (by have := HI.out.blk.1; have := hb2.out.size; simp; omega) (fun k e => (HLO.out k e).1))
        have HB5 : Hid (Below w.heap.size w w4) := Lib.hid (HI.out.bel.trans (HB4.out.mono (Nat.le_succ _)))
        have HROW : Hid (w4.ownsRow (w.heap.size + 1) 3 1 v' (pre ++ [nv]).length ((pre ++ [nv]).map fun z => Value.int .i64 z)) := Lib.hid (by
          have := HO.out
          rw [List.length_append, List.map_append]
          exact this)
        clear HO
      · go_ret
        have hall := HSTP.out
        rw [if_neg (by simp), List.append_nil] at hall
        rw [hall]
        obtain ⟨a2, c2, rfl, -, hrd, -⟩ := Reads.of_owns' HROW.out
        exact ⟨a2, c2, rfl, hrd, HB5.out⟩
      · go_roundw
        case rel =>
          refine ⟨k + 1, cap', nextR st nv, pre ++ [nv], some ⟨b', off', none⟩, by go_num, by rw [nextR_len nv (by omega)], Lib.hid ⟨by omega, by rw [nextR_len nv (by omega)]; exact hcp, nextR_st hx HI.out.hst hin, ?_, ?_, HROW.out, by simp; omega, HI.out.blk.below HB4.out (Nat.lt_succ_self _), HB5.out, HR.out.to HB5.out⟩⟩
          · rw [nextR_len nv (by omega)]
            refine (HRD.out.alloc _).grown HG.out (fun p hp e => ?_)
            have h1 := HFR.out p hp
            have h2 := (HLO.out p.block e.symm).2
            omega
          · have hall := HSTP.out
            rw [if_pos trivial] at hall
            exact hall
        case measure => simp [intOf]; omega
    · have : k = zs.length := by omega
      subst this
      go_wp2_with fail
      go_ret
      have hall := HI.out.all
      rw [List.drop_length] at hall
      rw [hall]
      obtain ⟨a2, c2, rfl, -, hrd, -⟩ := Reads.of_owns' HI.out.own
      simp only [runR, List.append_nil]
      exact ⟨a2, c2, rfl, hrd, HI.out.bel⟩

end Go.Proofs.Ytjieojkfpoiabaa

