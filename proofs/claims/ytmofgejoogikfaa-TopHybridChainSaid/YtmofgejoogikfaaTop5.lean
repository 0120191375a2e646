/-
  Texts of this claim, in their build order: A7 Lib4.
-/
import Derived.Test.YtmofgejoogikfaaTop3
import Derived.Test.YtmofgejoogikfaaTop4

/-
  The iterator over the steps of a run.
-/
namespace Go.Proofs.Ytmofgejoogikfaa
open Go.RowKit
attribute [local go_sem] Oper.semAt_some

theorem Blk.upd {W W' : World} {M M' : Nat → Prop} {b : Nat} {cs : Array Value} (h : Blk W b cs) (hu : Upd M M' W W') (hb : ¬ M b) : Blk W' b cs := by
  have hh := hu.same b h.1 hb
  refine ⟨Nat.lt_of_lt_of_le h.1 hu.size, fun o => ?_, fun o => ?_⟩
  · rw [← h.2.1 o]; exact World.cell?_of_block (w := W) (a := ⟨b, o, none⟩) hh
  · rw [← h.2.2 o]; exact World.frozen?_of_block (w := W) (a := ⟨b, o, none⟩) hh
theorem Reads.upd {W W' : World} {M M' : Nat → Prop} {a : Option Addr} {m : Nat} {f : Nat → Value} (h : Reads W a m f) (hu : Upd M M' W W') (hb : ∀ b off, a = some ⟨b, off, none⟩ → ¬ M b) : Reads W' a m f := by
  rcases h with h | ⟨b, off, ha, hlt, hc⟩
  · exact .inl h
  · exact .inr ⟨b, off, ha, Nat.lt_of_lt_of_le hlt hu.size, fun i hi => by rw [← hc i hi]; exact World.cell?_of_block (w := W) (a := ⟨b, off + i, none⟩) (hu.same b hlt (hb b off ha))⟩

theorem Reads.other {W : World} {a : Option Addr} {m : Nat} {f : Nat → Value} (h : Reads W a m f) (p : Addr) (v : Value) (hp : ∀ b off, a = some ⟨b, off, none⟩ → b ≠ p.block) : Reads (W.setCell p v) a m f := by
  rcases h with h | ⟨b, off, ha, hlt, hc⟩
  · exact .inl h
  · exact .inr ⟨b, off, ha, by simpa [World.setCell] using hlt, fun i hi => by rw [World.cell?_setCell_other _ _ _ _ (by intro e; exact hp b off ha (by rw [e]))]; exact hc i hi⟩

/-- Four stores into a block. -/
abbrev set4 (W : World) (b : Nat) (v0 v1 v2 v3 : Value) : World := (((W.setCell ⟨b, 0, none⟩ v0).setCell ⟨b, 1, none⟩ v1).setCell ⟨b, 2, none⟩ v2).setCell ⟨b, 3, none⟩ v3
theorem Agree.set4 {B : Nat} {M : Nat → Prop} (W : World) (b : Nat) (v0 v1 v2 v3 : Value) (hB : B ≤ b) (hM : ¬ M b) : Agree B M W (set4 W b v0 v1 v2 v3) :=
  (((Agree.setCell W ⟨b, 0, none⟩ v0 hB hM).trans (Agree.setCell _ ⟨b, 1, none⟩ v1 hB hM)).trans (Agree.setCell _ ⟨b, 2, none⟩ v2 hB hM)).trans (Agree.setCell _ ⟨b, 3, none⟩ v3 hB hM)
theorem Blk.set4 {W : World} {b : Nat} {c0 c1 c2 c3 : Value} (h : Blk W b #[c0, c1, c2, c3]) (v0 v1 v2 v3 : Value) : Blk (set4 W b v0 v1 v2 v3) b #[v0, v1, v2, v3] :=
  (((h.set 0 v0).set 1 v1).set 2 v2).set 3 v3
theorem Blk.other4 {W : World} {b c : Nat} {cs : Array Value} (h : Blk W c cs) (hb : b ≠ c) (v0 v1 v2 v3 : Value) : Blk (_root_.Go.Proofs.Ytmofgejoogikfaa.set4 W b v0 v1 v2 v3) c cs :=
  (((h.other (p := ⟨b, 0, none⟩) hb v0).other (p := ⟨b, 1, none⟩) hb v1).other (p := ⟨b, 2, none⟩) hb v2).other (p := ⟨b, 3, none⟩) hb v3
theorem Reads.other4 {W : World} {a : Option Addr} {m : Nat} {f : Nat → Value} (h : Reads W a m f) (b : Nat) (v0 v1 v2 v3 : Value) (hp : ∀ c off, a = some ⟨c, off, none⟩ → c ≠ b) : Reads (_root_.Go.Proofs.Ytmofgejoogikfaa.set4 W b v0 v1 v2 v3) a m f :=
  (((h.other ⟨b, 0, none⟩ v0 hp).other ⟨b, 1, none⟩ v1 hp).other ⟨b, 2, none⟩ v2 hp).other ⟨b, 3, none⟩ v3 hp

/-- Is a number within the bound? -/
def inB (x : HT) (n : Int) : Bool := decide (-x.b ≤ n) && decide (n ≤ x.b)
/-- The steps of a run: each state, and the one after it, up to the first one beyond the bound. -/
def stepsL (x : HT) : List Int → List Int → List (List Int × List Int)
  | _, [] => []
  | a, f :: fs => (a, nextL x a (nextV x a f)) :: (if inB x (nextV x a f) then stepsL x (nextL x a (nextV x a f)) fs else [])
abbrev stepC (s : List Int × List Int) : Array Value := #[.int .i64 (gi s.1 0), .int .i64 (gi s.1 1), .int .i64 (gi s.1 2), .int .i64 (gi s.1 3), .int .i64 (gi s.2 0), .int .i64 (gi s.2 1), .int .i64 (gi s.2 2), .int .i64 (gi s.2 3)]

theorem steps_any (x : HT) (a : Option Addr) (len cap : Nat) (w : World) :
    Calls Try.prog 96 #[.agg x.cells, .slice a len cap] w fun e w' => e = .returned (.func (.func 128) #[] #[.pointer (some ⟨w.heap.size + 1, 0, none⟩), .pointer (some ⟨w.heap.size, 0, none⟩)]) ∧
      (w.alloc (.cells x.cells 127)).alloc (.cells #[.slice a len cap] 22) = w' := by
  go_enter Try.func96, Try.ntmps96
  go_wp2_with fail
  go_ret
  exact ⟨rfl, rfl⟩

theorem next_in (x : HT) (a0 a1 a2 a3 f : Int) (w : World) (hx : x.ok) (hs : St a0 a1 a2 a3) (hf1 : -1000 ≤ f) (hf2 : f ≤ 1000) :
    Calls Try.prog 92 #[.agg x.cells, .agg #[.int .i64 a0, .int .i64 a1, .int .i64 a2, .int .i64 a3], .int .i64 f] w fun e w' => e = .returned (.tuple #[.agg (l4 (nextL x [a0, a1, a2, a3] (nextV x [a0, a1, a2, a3] f))), .bool (inB x (nextV x [a0, a1, a2, a3] f))]) ∧ Below w.heap.size w w' :=
  next_any x a0 a1 a2 a3 f w hx hs hf1 hf2

theorem kp_bd {x : HT} {j v : Int} (h1 : -3 ≤ v) (h2 : v ≤ 3) : -3 ≤ kp x j v ∧ kp x j v ≤ 3 := by unfold kp; split <;> omega
theorem St_next {x : HT} {a0 a1 a2 a3 n : Int} (hx : x.ok) (h : St a0 a1 a2 a3) (hn : inB x n = true) : St n a0 (kp x 1 a1) (kp x 2 a2) := by
  have := hx.b2
  unfold inB at hn
  simp at hn
  have h1 := kp_bd (x := x) (j := 1) h.l1 h.u1
  have h2 := kp_bd (x := x) (j := 2) h.l2 h.u2
  exact ⟨by omega, by omega, h.l0, h.u0, h1.1, h1.2, h2.1, h2.2⟩
theorem stepsL_on {x : HT} {a zs : List Int} {k : Nat} (hk : k < zs.length) (h : inB x (nextV x a (gi zs k)) = true) :
    stepsL x a (zs.drop k) = (a, nextL x a (nextV x a (gi zs k))) :: stepsL x (nextL x a (nextV x a (gi zs k))) (zs.drop (k + 1)) := by
  rw [gi_drop zs k hk, stepsL, if_pos h]
theorem stepsL_off {x : HT} {a zs : List Int} {k : Nat} (hk : k < zs.length) (h : inB x (nextV x a (gi zs k)) = false) :
    stepsL x a (zs.drop k) = [(a, nextL x a (nextV x a (gi zs k)))] := by
  rw [gi_drop zs k hk, stepsL, if_neg (by rw [h]; simp)]

set_option maxHeartbeats 1600000 in
set_option maxRecDepth 100000 in
theorem steps1_in (n : Nat) (x : HT) (zs : List Int) (a : Option Addr) (cap bx bz : Nat) (w : World) (hx : x.ok) (hz : ∀ k, k < zs.length → -1000 ≤ gi zs k ∧ gi zs k ≤ 1000) (hlen : zs.length ≤ maxLen)
    (hX : Blk w bx x.cells) (hZ : Blk w bz #[.slice a zs.length cap]) (hR : Reads w a zs.length (ints zs)) :
    SeqM n Try.prog 128 #[.pointer (some ⟨bz, 0, none⟩), .pointer (some ⟨bx, 0, none⟩)] (fun s => #[.agg (stepC s)]) (stepsL x [0, 0, 0, 0] zs) (fun k => k = bx ∨ k = bz ∨ (0 < zs.length ∧ ∃ off, a = some ⟨k, off, none⟩)) w := by
  intro l J Jx M W hW hM hJ hY h0
  unfold maxLen at hlen
  replace hX := Lib.hid (hX.to hW)
  replace hZ := Lib.hid (hZ.to hW)
  replace hR := Lib.hid (hR.to hW)
  replace hM := Lib.hid hM
  replace hJ := Lib.hid hJ
  replace hY := Lib.hid hY
  replace h0 := Lib.hid h0
  replace hz := Lib.hid hz
  have hbx := hX.out.1
  obtain ⟨hbz, k1, -⟩ := hZ.out
  have hRW := hR
  refine callsIn_of_wp Try.func128 rfl trivial ?_ rfl
  simp only [Try.ntmps128, List.size_toArray, List.length_cons, List.length_nil, Nat.reduceAdd, Nat.reduceSub, Array.replicate_succ, Array.replicate_zero, List.push_toArray, List.append_toArray, List.nil_append, List.cons_append]
  gi_wp2_with fail
  clear k1
  gi_loopw [6, 7, 8, 11] (fun _ _ _ i wr => ∃ k : Nat, k ≤ zs.length ∧ i = .int .i64 k ∧ ∃ (a0 a1 a2 a3 : Int) (pre : List (List Int × List Int)) (M1 : Nat → Prop), Hid (St a0 a1 a2 a3) ∧ Hid (Blk wr W.heap.size #[.int .i64 a0, .int .i64 a1, .int .i64 a2, .int .i64 a3]) ∧ Hid (Blk wr bx x.cells) ∧ Hid (Blk wr bz #[.slice a zs.length cap]) ∧ Hid (Reads wr a zs.length (ints zs)) ∧
      Hid (stepsL x [0, 0, 0, 0] zs = pre ++ stepsL x [a0, a1, a2, a3] (zs.drop k)) ∧ Hid (J pre M1 wr) ∧ Hid (∀ k, M1 k → k < wr.heap.size ∧ k ≠ W.heap.size ∧ ¬ (k = bx ∨ k = bz ∨ (0 < zs.length ∧ ∃ off, a = some ⟨k, off, none⟩))) ∧ W.heap.size < wr.heap.size) (fun _ _ _ i _ => zs.length - (intOf i).toNat)
  case atStart =>
    exact ⟨0, Nat.zero_le _, rfl, 0, 0, 0, 0, [], M, Lib.hid ⟨by omega, by omega, by omega, by omega, by omega, by omega, by omega, by omega⟩, Lib.hid (Blk.new _ _ _), Lib.hid (hX.out.alloc _), Lib.hid (hZ.out.alloc _), Lib.hid (hR.out.alloc _), Lib.hid rfl, Lib.hid (hJ.out _ _ _ _ h0.out (Agree.of_below (bAlloc (bSelf _) _) (Nat.le_refl _))), Lib.hid (fun k hk => ⟨by have := (hM.out k hk).1; simp; omega, by have := (hM.out k hk).1; omega, (hM.out k hk).2⟩), by simp⟩
  case round =>
    obtain ⟨k, hk, rfl, a0, a1, a2, a3, pre, M1, hs, hA, hX, hZ, hR, hl, hj, hm, hsz⟩ := hrel
    by_cases hlt : k < zs.length
    · obtain ⟨b, off, rfl, hb, hc⟩ := hR.out.at hlt
      have h1 : wr.cell? ⟨b, off + k, none⟩ = some (.int .i64 (gi zs k)) := hc k hlt
      clear hc
      obtain ⟨-, kA, -⟩ := hA.out
      obtain ⟨-, kX, -⟩ := hX.out
      gi_wp2_with fail
      refine ⟨trivial, fun h => by simp [Fence.wide] at h, ?_⟩
      refine (callsIn_wide.2 (next_in x a0 a1 a2 a3 (gi zs k) wr hx hs.out (hz.out k hlt).1 (hz.out k hlt).2)).mono ?_
      rintro e w1 ⟨rfl, hb1⟩
      replace hA := Lib.hid (hA.out.to hb1)
      replace hX := Lib.hid (hX.out.to hb1)
      replace hZ := Lib.hid (hZ.out.to hb1)
      replace hR := Lib.hid (hR.out.to hb1)
      have hsz1 : wr.heap.size ≤ w1.heap.size := hb1.size
      have hjj : ∀ o, J pre M1 (w1.alloc o) := fun o => hJ.out _ _ _ _ hj.out (Agree.of_below (bAlloc hb1 _) (by omega))
      replace hm : Hid (∀ k, M1 k → k < w1.heap.size ∧ k ≠ W.heap.size ∧ ¬ (k = bx ∨ k = bz ∨ (0 < zs.length ∧ ∃ off', some (⟨b, off, none⟩ : Addr) = some ⟨k, off', none⟩))) := Lib.hid (fun k hk => ⟨by have := (hm.out k hk).1; omega, (hm.out k hk).2⟩)
      clear kA kX h1 hj hb1
      cases hin : inB x (nextV x [a0, a1, a2, a3] (gi zs k)) with
      | true =>
        have HL := Lib.hid (stepsL_on hlt hin)
        have hs' := Lib.hid (St_next hx hs.out hin)
        have hy0 := hY.out pre _ _ M1 (w1.alloc (.cells (l4 (nextL x [a0, a1, a2, a3] (nextV x [a0, a1, a2, a3] (gi zs k)))) 131)) (hl.out.trans (by rw [HL.out])) (hjj _)
        generalize nextV x [a0, a1, a2, a3] (gi zs k) = nv at *
        obtain ⟨fn, tmps, assign, body, hy, hRd⟩ := hy0
        have hy' : Sem.run Try.prog (Instr.yield l #[.agg #[.int .i64 a0, .int .i64 a1, .int .i64 a2, .int .i64 a3, .int .i64 (gi (nextL x [a0, a1, a2, a3] nv) 0), .int .i64 (gi (nextL x [a0, a1, a2, a3] nv) 1), .int .i64 (gi (nextL x [a0, a1, a2, a3] nv) 2), .int .i64 (gi (nextL x [a0, a1, a2, a3] nv) 3)]]) (w1.alloc (.cells (l4 (nextL x [a0, a1, a2, a3] nv)) 131)) = _ := hy
        clear hin hy
        obtain ⟨hbA, kA, -⟩ := hA.out
        have hRd := Lib.hid hRd
        clear hjj
        gi_wp2_with fail
        refine ⟨fun h => by simp [Fence.wide] at h, ?_⟩
        refine hRd.out.mono ?_
        rintro e W2 (⟨rfl, M2, hJ2, hU⟩ | ⟨rfl, hJx⟩)
        · have hnA : ¬ M1 W.heap.size := fun h => (hm.out _ h).2.1 rfl
          replace hA := Lib.hid ((hA.out.alloc _).upd hU hnA)
          replace hX := Lib.hid ((hX.out.alloc _).upd hU (fun h => (hm.out _ h).2.2 (.inl rfl)))
          replace hZ := Lib.hid ((hZ.out.alloc _).upd hU (fun h => (hm.out _ h).2.2 (.inr (.inl rfl))))
          replace hR := Lib.hid ((hR.out.alloc _).upd hU (fun b' off' e h => (hm.out _ h).2.2 (.inr (.inr ⟨by omega, _, e⟩))))
          have hT := (Blk.new w1 (l4 (nextL x [a0, a1, a2, a3] nv)) 131).upd hU (fun h => by have := (hm.out _ h).1; omega)
          have hsz2 := hU.size
          simp only [World.size_alloc] at hsz2
          obtain ⟨-, kT, -⟩ := hT
          obtain ⟨hbA2, kA2, kA2f⟩ := hA.out
          have hJ2 := Lib.hid hJ2
          have hU := Lib.hid hU
          clear kA hy'
          gi_wp2_with fail
          go_roundw
          case rel =>
            have hb0 : b < W.heap.size := by
              obtain ⟨b', off', e, h, -⟩ := hRW.out.at hlt
              cases e; exact h
            have hn2 : ¬ M2 W.heap.size := fun h => (hU.out.grow _ h).elim hnA (fun h => by simp at h; omega)
            have hag := Agree.set4 (B := W.heap.size) (M := M2) W2 W.heap.size (.int .i64 (gi (nextL x [a0, a1, a2, a3] nv) 0)) (.int .i64 (gi (nextL x [a0, a1, a2, a3] nv) 1)) (.int .i64 (gi (nextL x [a0, a1, a2, a3] nv) 2)) (.int .i64 (gi (nextL x [a0, a1, a2, a3] nv) 3)) (Nat.le_refl _) hn2
            refine ⟨k + 1, by omega, by go_num, nv, a0, kp x 1 a1, kp x 2 a2, pre ++ [([a0, a1, a2, a3], nextL x [a0, a1, a2, a3] nv)], M2, hs', Lib.hid ?_, Lib.hid ?_, Lib.hid ?_, Lib.hid ?_, Lib.hid ?_, Lib.hid ?_, Lib.hid ?_, ?_⟩
            · exact hA.out.set4 _ _ _ _
            · exact hX.out.other4 (by omega) _ _ _ _
            · exact hZ.out.other4 (by omega) _ _ _ _
            · exact hR.out.other4 _ _ _ _ _ (fun b' off' e => by cases e; omega)
            · rw [hl.out, HL.out, List.append_assoc]; rfl
            · exact hJ.out _ _ _ _ hJ2.out hag
            · intro k' hk'
              refine ⟨Nat.lt_of_lt_of_le (hU.out.fit k' hk') hag.size, ?_⟩
              rcases hU.out.grow k' hk' with h | h
              · exact (hm.out k' h).2
              · simp only [World.size_alloc] at h
                refine ⟨by omega, ?_⟩
                rintro (rfl | rfl | ⟨-, off', e⟩)
                · omega
                · omega
                · cases e; omega
            · exact Nat.lt_of_lt_of_le hbA2 hag.size
          case measure => simp [intOf]; omega
        · gi_wp2_with fail
          refine bodyPost_ret (results_none rfl _ _ _) rfl ?_
          exact ⟨⟨_, rfl⟩, .inr ⟨pre, _, _, hl.out.trans (by rw [HL.out]), hJx⟩⟩
      | false =>
        have HL := Lib.hid (stepsL_off hlt hin)
        have hy0 := hY.out pre _ _ M1 (w1.alloc (.cells (l4 (nextL x [a0, a1, a2, a3] (nextV x [a0, a1, a2, a3] (gi zs k)))) 131)) (hl.out.trans (by rw [HL.out])) (hjj _)
        generalize nextV x [a0, a1, a2, a3] (gi zs k) = nv at *
        obtain ⟨fn, tmps, assign, body, hy, hRd⟩ := hy0
        have hy' : Sem.run Try.prog (Instr.yield l #[.agg #[.int .i64 a0, .int .i64 a1, .int .i64 a2, .int .i64 a3, .int .i64 (gi (nextL x [a0, a1, a2, a3] nv) 0), .int .i64 (gi (nextL x [a0, a1, a2, a3] nv) 1), .int .i64 (gi (nextL x [a0, a1, a2, a3] nv) 2), .int .i64 (gi (nextL x [a0, a1, a2, a3] nv) 3)]]) (w1.alloc (.cells (l4 (nextL x [a0, a1, a2, a3] nv)) 131)) = _ := hy
        clear hin hy
        obtain ⟨hbA, kA, -⟩ := hA.out
        have hRd := Lib.hid hRd
        clear hjj
        gi_wp2_with fail
        refine ⟨fun h => by simp [Fence.wide] at h, ?_⟩
        refine hRd.out.mono ?_
        rintro e W2 (⟨rfl, M2, hJ2, hU⟩ | ⟨rfl, hJx⟩)
        · have hJ2 := Lib.hid hJ2
          clear hU
          gi_wp2_with fail
          refine bodyPost_ret (results_none rfl _ _ _) rfl ?_
          exact ⟨⟨_, rfl⟩, .inl ⟨M2, by rw [hl.out, HL.out]; exact hJ2.out⟩⟩
        · gi_wp2_with fail
          refine bodyPost_ret (results_none rfl _ _ _) rfl ?_
          exact ⟨⟨_, rfl⟩, .inr ⟨pre, _, _, hl.out.trans (by rw [HL.out]), hJx⟩⟩
    · have : k = zs.length := by omega
      subst this
      gi_wp2_with fail
      go_end0
      refine ⟨⟨_, rfl⟩, .inl ⟨M1, ?_⟩⟩
      have e := hl.out
      rw [List.drop_length] at e
      simp only [stepsL, List.append_nil] at e
      rw [e]
      exact hj.out

end Go.Proofs.Ytmofgejoogikfaa

/-
  Append onto a slice of the call's own, with where the new row lies; a variable's box that holds such a slice, in a loop over an iterator.
-/
namespace Go.Proofs.Ytmofgejoogikfaa
open Go.RowKit

/-- The facts of an element type, in one. -/
structure RowTy (P : Program) (t e : TypeId) (size bytes : Nat) (z : Value) : Prop where
  u : P.underlying t = some (.slice e)
  i : ∃ i, P.info? e = some i ∧ i.zero = some z ∧ i.size = size ∧ i.bytes = bytes
  zs : z.cells.size = size
  pos : 0 < size
  byt : 0 < bytes

section
variable {P : Program} {w : World}

theorem append_where (base : Nat) {t e : TypeId} (ty : TypeId) {z : Value} {size bytes : Nat} (rt : RowTy P t e size bytes z)
    (v : Value) (n : Nat) (xs : List Value) (hown : w.ownsRow base e size v n xs)
    (a : Addr) (m c : Nat) (news : List Value) (hl : news.length = m * size) (hnews : ∀ j u, news[j]? = some u → w.cell? (a.add j) = some u) (h1 : ∀ u ∈ news, u.oneCell' = true)
    (h63 : n + m ≤ maxLen) (hbytes : (n + m) * bytes ≤ 140737488355328) (hbase : base ≤ w.heap.size) :
    ∃ v' w', (Builtin.append_ #[t, t] ty #[v, .slice (some a) m c]).run P w = .ok v' w' ∧ w'.ownsRow base e size v' (n + m) (xs ++ news) ∧ w.grownBy w' v.ownBlock ∧
      (v' = .slice none 0 0 ↔ v = .slice none 0 0 ∧ m = 0) ∧ (v'.ownBlock = v.ownBlock ∨ v'.ownBlock = some w.heap.size) := by
  obtain ⟨i, hi, hz, hs, hb⟩ := rt.i
  obtain ⟨v', w', hr, r1, r2, r3⟩ := run_append_own (P := P) w base t ty e i z size bytes rt.u hi hz hs hb rt.zs rt.pos v n xs hown a m c news hl hnews h1 h63 hbytes hbase
  refine ⟨v', w', hr, r1, r2, r3, ?_⟩
  have hml : n + m ≤ 9223372036854775807 := by simp only [maxLen] at h63; omega
  subst hs
  subst hb
  rcases hown.2 with ⟨rfl, rfl⟩ | ⟨g, cap, cur, rfl, hbg, hg, hnc, hcm, hcs, htake⟩
  · by_cases hm : m = 0
    · left; rw [r3.2 ⟨rfl, hm⟩]
    · right
      have h := run_append_nil (P := P) w t ty e i z rt.u hi hz a m c news hl hnews (by omega) (by omega) (by have hb := hbytes; simp only [Nat.zero_add] at hb; omega)
      rw [h] at hr
      injection hr with h1 h2
      rw [← h1]; rfl
  · by_cases hroom : n + m ≤ cap
    · left
      have hfit : n * i.size + news.length ≤ cur.size := by rw [hl, hcs, ← Nat.add_mul]; exact Nat.mul_le_mul_right _ hroom
      have h := run_append_room (P := P) w t ty e i rt.u hi g n cap cur hg a m c news hl hnews h1 hroom hfit
      rw [h] at hr
      injection hr with h1 h2
      rw [← h1]; rfl
    · right
      have holds : ∀ j u, xs[j]? = some u → w.cell? ((⟨g, 0, none⟩ : Addr).add j) = some u := hown.cells (g := g) rfl
      have h := run_append_grow (P := P) w t ty e i z rt.u hi hz ⟨g, 0, none⟩ n cap xs hown.1 holds a m c news hl hnews (by omega) (by omega) (growslice_fits (by omega) hbytes)
      rw [h] at hr
      injection hr with h1 h2
      rw [← h1]; rfl

/-- append in a walk. -/
theorem wpList_app {ops : Array Oper} {rest : List Oper} {o : Oper} {b : Act} {Q : Exit → Act → World → Prop} (base : Nat) {t e : TypeId} {z : Value} {size bytes : Nat} (rt : RowTy P t e size bytes z)
    (hg : o.guard = none) (s x : Operand) (hop : o.op = Op.call { callee := Callee.builtin Builtin.append, args := #[s, x], argTypes := #[t, t] })
    (v : Value) (n : Nat) (xs : List Value) (hs : b.eval s = v) (hown : w.ownsRow base e size v n xs) (a : Addr) (m c : Nat) (news : List Value) (hx : b.eval x = .slice (some a) m c)
    (hl : news.length = m * size) (hnews : ∀ j u, news[j]? = some u → w.cell? (a.add j) = some u) (h1 : ∀ u ∈ news, u.oneCell' = true)
    (h63 : n + m ≤ maxLen) (hbytes : (n + m) * bytes ≤ 140737488355328) (hbase : base ≤ w.heap.size)
    (hK : ∀ v' w', w'.ownsRow base e size v' (n + m) (xs ++ news) → w.grownBy w' v.ownBlock → (v' = .slice none 0 0 ↔ v = .slice none 0 0 ∧ m = 0) → (v'.ownBlock = v.ownBlock ∨ v'.ownBlock = some w.heap.size) → wpList P ops Q rest (b.put o.dst v') w') :
    wpList P ops Q (o :: rest) b w := by
  refine wpList_plain hg fun K hK' => ?_
  obtain ⟨v', w', hr, r1, r2, r3, r4⟩ := append_where (P := P) base o.type rt v n xs hown a m c news hl hnews h1 h63 hbytes hbase
  unfold Oper.wp execOp
  simp only [hop, resolve, invoke, builtin, Sem.run_bind, Sem.run_pure, Result.andThen_ok, List.map_toArray, List.map_cons, List.map_nil, hs, hx, hr]
  exact hK' _ _ (hK v' w' r1 r2 r3 r4)

/-- append in a walk inside a fence. -/
theorem wpListIn_app {F : Fence} {d : Nat} {ops : Array Oper} {rest : List Oper} {o : Oper} {b : Act} {Q : Exit → Act → World → Prop} (base : Nat) {t e : TypeId} {z : Value} {size bytes : Nat} (rt : RowTy P t e size bytes z)
    (hg : o.guard = none) (s x : Operand) (hop : o.op = Op.call { callee := Callee.builtin Builtin.append, args := #[s, x], argTypes := #[t, t] })
    (v : Value) (n : Nat) (xs : List Value) (hs : b.eval s = v) (hown : w.ownsRow base e size v n xs) (a : Addr) (m c : Nat) (news : List Value) (hx : b.eval x = .slice (some a) m c)
    (hl : news.length = m * size) (hnews : ∀ j u, news[j]? = some u → w.cell? (a.add j) = some u) (h1 : ∀ u ∈ news, u.oneCell' = true)
    (h63 : n + m ≤ maxLen) (hbytes : (n + m) * bytes ≤ 140737488355328) (hbase : base ≤ w.heap.size)
    (hK : ∀ v' w', w'.ownsRow base e size v' (n + m) (xs ++ news) → w.grownBy w' v.ownBlock → (v' = .slice none 0 0 ↔ v = .slice none 0 0 ∧ m = 0) → (v'.ownBlock = v.ownBlock ∨ v'.ownBlock = some w.heap.size) → wpListIn F d P ops Q rest (b.put o.dst v') w') :
    wpListIn F d P ops Q (o :: rest) b w := by
  refine wpListIn_plain hg fun K hK' => ?_
  obtain ⟨v', w', hr, r1, r2, r3, r4⟩ := append_where (P := P) base o.type rt v n xs hown a m c news hl hnews h1 h63 hbytes hbase
  unfold Oper.wpIn
  refine ⟨?_, ?_⟩
  · simp [Oper.about, hop, resolve, Target.leads, Sem.run_pure]
  · rw [Oper.semAt_plain F _ _ (by rw [hop]; intro c hc'; cases hc')]
    simp [execOp, hop, resolve, invoke, builtin, hs, hx, hr, Result.andThen]
    exact hK' _ _ (hK v' w' r1 r2 r3 r4)
end

/-- A box whose slice is appended to, behind the store: what the loop's invariant wants. M: the blocks that may be written. -/
theorem upd_appended {W w1 : World} {n₀ B : Nat} {e : TypeId} {size : Nat} {v v' : Value} {m : Nat} {ys : List Value} {tmp : Obj} {M : Nat → Prop}
    (hM : ∀ k, M k → k < W.heap.size) (hMB : M B) (hMv : ∀ k, v.ownBlock = some k → M k)
    (hown' : w1.ownsRow n₀ e size v' m ys) (hgrow : (W.alloc tmp).grownBy w1 v.ownBlock) (hwhere : v'.ownBlock = v.ownBlock ∨ v'.ownBlock = some (W.heap.size + 1)) :
    Upd M (fun k => M k ∨ v'.ownBlock = some k) W (w1.setCell ⟨B, 0, none⟩ v') := by
  have hsz := hgrow.size
  simp only [World.size_alloc] at hsz
  have hss : (w1.setCell ⟨B, 0, none⟩ v').heap.size = w1.heap.size := by simp [World.setCell]
  refine ⟨hgrow.os, hgrow.tape, hgrow.output, by omega, fun k hk hm => ?_, fun k hk => ?_, fun k hk => ?_⟩
  · rw [Below.heap_setCell _ _ _ _ (show k ≠ B from fun e => hm (by rw [e]; exact hMB)), hgrow.block k (by simp; omega) (fun e => hm (hMv k e.symm)), Below.heap_alloc _ _ _ hk]
  · rcases hk with hk | hk
    · exact .inl hk
    · rcases hwhere with h | h
      · exact .inl (hMv k (h ▸ hk))
      · rw [h] at hk; cases hk; exact .inr (Nat.le_succ _)
  · rw [hss]
    rcases hk with hk | hk
    · have := hM k hk; omega
    · exact (hown'.lt k hk).2

/-- What an owned row of whole numbers reads as. -/
theorem Reads.of_owns {W : World} {n₀ : Nat} {e : TypeId} {v : Value} {zs : List Int} (h : W.ownsRow n₀ e 1 v zs.length (zs.map fun z => Value.int .i64 z)) :
    ∃ a cap, v = .slice a zs.length cap ∧ Reads W a zs.length (ints zs) := by
  rcases h.2 with ⟨rfl, h0⟩ | ⟨g, cap, cur, rfl, hb, hg, hn, hc, hs, ht⟩
  · exact ⟨none, 0, by rw [h0], .inl h0⟩
  · refine ⟨_, cap, rfl, .inr ⟨g, 0, rfl, (Array.getElem?_eq_some_iff.1 hg).1, fun i hi => ?_⟩⟩
    have hcell := World.ownsRow.cellAt (w := W) (base := n₀) (e := e) (size := 1) (g := g) (cap := cap) h i (by omega)
    rw [Nat.zero_add, hcell]
    simp [ints, gi, hi]

end Go.Proofs.Ytmofgejoogikfaa

