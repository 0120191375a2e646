/-
  Texts of this claim, in their build order: A7.
-/
import Derived.Test.YtfdlhhinomjakaaHel4
import Derived.Test.YtfdlhhinomjakaaHel5
import Derived.Test.YtfdlhhinomjakaaHel0

namespace Go.Proofs.Ytfdlhhinomjakaa
section
open Go.RowKit
attribute [local go_sem] Oper.semAt_some

theorem Blk.upd {W W' : World} {M M' : Nat → Prop} {b : Nat} {cs : Array Value} (h : Blk W b cs) (hu : Upd M M' W W') (hb : ¬ M b) : Blk W' b cs := by
  have hh := hu.same b h.1 hb
  refine ⟨Nat.lt_of_lt_of_le h.1 hu.size, fun o => ?_, fun o => ?_⟩
  · rw [← h.2.1 o]; exact World.cell?_of_block (w := W) (a := ⟨b, o, none⟩) hh
  · rw [← h.2.2 o]; exact World.frozen?_of_block (w := W) (a := ⟨b, o, none⟩) hh
theorem Reads.upd {W W' : World} {M M' : Nat → Prop} {a : Option Addr} {m : Nat} {f : Nat → Value} (h : Reads W a m f) (hu : Upd M M' W W') (hb : ∀ b off, a = some ⟨b, off, none⟩ → ¬ M b) : Reads W' a m f := by
  rcases h with h | ⟨b, off, ha, hlt, hc⟩
  · exact .inl h
  · exact .inr ⟨b, off, ha, Nat.lt_of_lt_of_le hlt hu.size, fun i hi => by rw [← hc i hi]; exact World.cell?_of_block (w := W) (a := ⟨b, off + i, none⟩) (hu.same b hlt (hb b off ha))⟩

theorem Reads.other {W : World} {a : Option Addr} {m : Nat} {f : Nat → Value} (h : Reads W a m f) (p : Addr) (v : Value) (hp : ∀ b off, a = some ⟨b, off, none⟩ → b ≠ p.block) : Reads (W.setCell p v) a m f := by
  rcases h with h | ⟨b, off, ha, hlt, hc⟩
  · exact .inl h
  · exact .inr ⟨b, off, ha, by simpa [World.setCell] using hlt, fun i hi => by rw [World.cell?_setCell_other _ _ _ _ (by intro e; exact hp b off ha (by rw [e]))]; exact hc i hi⟩

/-- Four stores into a block. -/
abbrev set4 (W : World) (b : Nat) (v0 v1 v2 v3 : Value) : World := (((W.setCell ⟨b, 0, none⟩ v0).setCell ⟨b, 1, none⟩ v1).setCell ⟨b, 2, none⟩ v2).setCell ⟨b, 3, none⟩ v3
theorem Agree.set4 {B : Nat} {M : Nat → Prop} (W : World) (b : Nat) (v0 v1 v2 v3 : Value) (hB : B ≤ b) (hM : ¬ M b) : Agree B M W (set4 W b v0 v1 v2 v3) :=
  (((Agree.setCell W ⟨b, 0, none⟩ v0 hB hM).trans (Agree.setCell _ ⟨b, 1, none⟩ v1 hB hM)).trans (Agree.setCell _ ⟨b, 2, none⟩ v2 hB hM)).trans (Agree.setCell _ ⟨b, 3, none⟩ v3 hB hM)
theorem Blk.set4 {W : World} {b : Nat} {c0 c1 c2 c3 : Value} (h : Blk W b #[c0, c1, c2, c3]) (v0 v1 v2 v3 : Value) : Blk (set4 W b v0 v1 v2 v3) b #[v0, v1, v2, v3] :=
  (((h.set 0 v0).set 1 v1).set 2 v2).set 3 v3
theorem Blk.other4 {W : World} {b c : Nat} {cs : Array Value} (h : Blk W c cs) (hb : b ≠ c) (v0 v1 v2 v3 : Value) : Blk (_root_.Go.Proofs.Ytfdlhhinomjakaa.set4 W b v0 v1 v2 v3) c cs :=
  (((h.other (p := ⟨b, 0, none⟩) hb v0).other (p := ⟨b, 1, none⟩) hb v1).other (p := ⟨b, 2, none⟩) hb v2).other (p := ⟨b, 3, none⟩) hb v3
theorem Reads.other4 {W : World} {a : Option Addr} {m : Nat} {f : Nat → Value} (h : Reads W a m f) (b : Nat) (v0 v1 v2 v3 : Value) (hp : ∀ c off, a = some ⟨c, off, none⟩ → c ≠ b) : Reads (_root_.Go.Proofs.Ytfdlhhinomjakaa.set4 W b v0 v1 v2 v3) a m f :=
  (((h.other ⟨b, 0, none⟩ v0 hp).other ⟨b, 1, none⟩ v1 hp).other ⟨b, 2, none⟩ v2 hp).other ⟨b, 3, none⟩ v3 hp

/-- Is a number within the bound? -/
def inB (x : HT) (n : Int) : Bool := decide (-x.b ≤ n) && decide (n ≤ x.b)
/-- The steps of a run: each state, and the one after it, up to the first one beyond the bound. -/
def stepsL (x : HT) : List Int → List Int → List (List Int × List Int)
  | _, [] => []
  | a, f :: fs => (a, nextL x a (nextV x a f)) :: (if inB x (nextV x a f) then stepsL x (nextL x a (nextV x a f)) fs else [])
abbrev stepC (s : List Int × List Int) : Array Value := #[.int .i64 (gi s.1 0), .int .i64 (gi s.1 1), .int .i64 (gi s.1 2), .int .i64 (gi s.1 3), .int .i64 (gi s.2 0), .int .i64 (gi s.2 1), .int .i64 (gi s.2 2), .int .i64 (gi s.2 3)]

theorem steps_any (x : HT) (a : Option Addr) (len cap : Nat) (w : World) :
    Calls Try.prog 46 #[.agg x.cells, .slice a len cap] w fun e w' => e = .returned (.func (.func 64) #[] #[.pointer (some ⟨w.heap.size + 1, 0, none⟩), .pointer (some ⟨w.heap.size, 0, none⟩)]) ∧
      (w.alloc (.cells x.cells 68)).alloc (.cells #[.slice a len cap] 26) = w' := by
  go_enter Try.func46, Try.ntmps46
  go_wp2_with fail
  go_ret
  exact ⟨rfl, rfl⟩

theorem next_in (x : HT) (a0 a1 a2 a3 f : Int) (w : World) (hx : x.ok) (hs : St a0 a1 a2 a3) (hf1 : -1000 ≤ f) (hf2 : f ≤ 1000) :
    Calls Try.prog 42 #[.agg x.cells, .agg #[.int .i64 a0, .int .i64 a1, .int .i64 a2, .int .i64 a3], .int .i64 f] w fun e w' => e = .returned (.tuple #[.agg (l4 (nextL x [a0, a1, a2, a3] (nextV x [a0, a1, a2, a3] f))), .bool (inB x (nextV x [a0, a1, a2, a3] f))]) ∧ Below w.heap.size w w' :=
  next_any x a0 a1 a2 a3 f w hx hs hf1 hf2

theorem kp_bd {x : HT} {j v : Int} (h1 : -3 ≤ v) (h2 : v ≤ 3) : -3 ≤ kp x j v ∧ kp x j v ≤ 3 := by unfold kp; split <;> omega
theorem St_next {x : HT} {a0 a1 a2 a3 n : Int} (hx : x.ok) (h : St a0 a1 a2 a3) (hn : inB x n = true) : St n a0 (kp x 1 a1) (kp x 2 a2) := by
  have := hx.b2
  unfold inB at hn
  simp at hn
  have h1 := kp_bd (x := x) (j := 1) h.l1 h.u1
  have h2 := kp_bd (x := x) (j := 2) h.l2 h.u2
  exact ⟨by omega, by omega, h.l0, h.u0, h1.1, h1.2, h2.1, h2.2⟩
theorem stepsL_on {x : HT} {a zs : List Int} {k : Nat} (hk : k < zs.length) (h : inB x (nextV x a (gi zs k)) = true) :
    stepsL x a (zs.drop k) = (a, nextL x a (nextV x a (gi zs k))) :: stepsL x (nextL x a (nextV x a (gi zs k))) (zs.drop (k + 1)) := by
  rw [gi_drop zs k hk, stepsL, if_pos h]
theorem stepsL_off {x : HT} {a zs : List Int} {k : Nat} (hk : k < zs.length) (h : inB x (nextV x a (gi zs k)) = false) :
    stepsL x a (zs.drop k) = [(a, nextL x a (nextV x a (gi zs k)))] := by
  rw [gi_drop zs k hk, stepsL, if_neg (by rw [h]; simp)]

set_option maxHeartbeats 1600000 in
set_option maxRecDepth 100000 in
theorem steps1_in (n : Nat) (x : HT) (zs : List Int) (a : Option Addr) (cap bx bz : Nat) (w : World) (hx : x.ok) (hz : ∀ k, k < zs.length → -1000 ≤ gi zs k ∧ gi zs k ≤ 1000) (hlen : zs.length ≤ maxLen)
    (hX : Blk w bx x.cells) (hZ : Blk w bz #[.slice a zs.length cap]) (hR : Reads w a zs.length (ints zs)) :
    SeqM n Try.prog 64 #[.pointer (some ⟨bz, 0, none⟩), .pointer (some ⟨bx, 0, none⟩)] (fun s => #[.agg (stepC s)]) (stepsL x [0, 0, 0, 0] zs) (fun k => k = bx ∨ k = bz ∨ (0 < zs.length ∧ ∃ off, a = some ⟨k, off, none⟩)) w := by
  intro l J Jx M W hW hM hJ hY h0
  unfold maxLen at hlen
  replace hX := zH (hX.to hW)
  replace hZ := zH (hZ.to hW)
  replace hR := zH (hR.to hW)
  replace hM := zH hM
  replace hJ := zH hJ
  replace hY := zH hY
  replace h0 := zH h0
  replace hz := zH hz
  have hbx := hX.out.1
  obtain ⟨hbz, k1, -⟩ := hZ.out
  have hRW := hR
  refine callsIn_of_wp Try.func64 rfl trivial ?_ rfl
  simp only [Try.ntmps64, List.size_toArray, List.length_cons, List.length_nil, Nat.reduceAdd, Nat.reduceSub, Array.replicate_succ, Array.replicate_zero, List.push_toArray, List.append_toArray, List.nil_append, List.cons_append]
  gi_wp2_with fail
  clear k1
  gi_loopw [6, 7, 8, 11] (fun _ _ _ i wr => ∃ k : Nat, k ≤ zs.length ∧ i = .int .i64 k ∧ ∃ (a0 a1 a2 a3 : Int) (pre : List (List Int × List Int)) (M1 : Nat → Prop), Hid (St a0 a1 a2 a3) ∧ Hid (Blk wr W.heap.size #[.int .i64 a0, .int .i64 a1, .int .i64 a2, .int .i64 a3]) ∧ Hid (Blk wr bx x.cells) ∧ Hid (Blk wr bz #[.slice a zs.length cap]) ∧ Hid (Reads wr a zs.length (ints zs)) ∧
      Hid (stepsL x [0, 0, 0, 0] zs = pre ++ stepsL x [a0, a1, a2, a3] (zs.drop k)) ∧ Hid (J pre M1 wr) ∧ Hid (∀ k, M1 k → k < wr.heap.size ∧ k ≠ W.heap.size ∧ ¬ (k = bx ∨ k = bz ∨ (0 < zs.length ∧ ∃ off, a = some ⟨k, off, none⟩))) ∧ W.heap.size < wr.heap.size) (fun _ _ _ i _ => zs.length - (intOf i).toNat)
  case atStart =>
    exact ⟨0, Nat.zero_le _, rfl, 0, 0, 0, 0, [], M, zH ⟨by omega, by omega, by omega, by omega, by omega, by omega, by omega, by omega⟩, zH (Blk.new _ _ _), zH (hX.out.alloc _), zH (hZ.out.alloc _), zH (hR.out.alloc _), zH rfl, zH (hJ.out _ _ _ _ h0.out (Agree.of_below (bAlloc (bSelf _) _) (Nat.le_refl _))), zH (fun k hk => ⟨by have := (hM.out k hk).1; simp; omega, by have := (hM.out k hk).1; omega, (hM.out k hk).2⟩), by simp⟩
  case round =>
    obtain ⟨k, hk, rfl, a0, a1, a2, a3, pre, M1, hs, hA, hX, hZ, hR, hl, hj, hm, hsz⟩ := hrel
    by_cases hlt : k < zs.length
    · obtain ⟨b, off, rfl, hb, hc⟩ := hR.out.at hlt
      have h1 : wr.cell? ⟨b, off + k, none⟩ = some (.int .i64 (gi zs k)) := hc k hlt
      clear hc
      obtain ⟨-, kA, -⟩ := hA.out
      obtain ⟨-, kX, -⟩ := hX.out
      gi_wp2_with fail
      refine ⟨trivial, fun h => by simp [Fence.wide] at h, ?_⟩
      refine (callsIn_wide.2 (next_in x a0 a1 a2 a3 (gi zs k) wr hx hs.out (hz.out k hlt).1 (hz.out k hlt).2)).mono ?_
      rintro e w1 ⟨rfl, hb1⟩
      replace hA := zH (hA.out.to hb1)
      replace hX := zH (hX.out.to hb1)
      replace hZ := zH (hZ.out.to hb1)
      replace hR := zH (hR.out.to hb1)
      have hsz1 : wr.heap.size ≤ w1.heap.size := hb1.size
      have hjj : ∀ o, J pre M1 (w1.alloc o) := fun o => hJ.out _ _ _ _ hj.out (Agree.of_below (bAlloc hb1 _) (by omega))
      replace hm : Hid (∀ k, M1 k → k < w1.heap.size ∧ k ≠ W.heap.size ∧ ¬ (k = bx ∨ k = bz ∨ (0 < zs.length ∧ ∃ off', some (⟨b, off, none⟩ : Addr) = some ⟨k, off', none⟩))) := zH (fun k hk => ⟨by have := (hm.out k hk).1; omega, (hm.out k hk).2⟩)
      clear kA kX h1 hj hb1
      cases hin : inB x (nextV x [a0, a1, a2, a3] (gi zs k)) with
      | true =>
        have HL := zH (stepsL_on hlt hin)
        have hs' := zH (St_next hx hs.out hin)
        have hy0 := hY.out pre _ _ M1 (w1.alloc (.cells (l4 (nextL x [a0, a1, a2, a3] (nextV x [a0, a1, a2, a3] (gi zs k)))) 72)) (hl.out.trans (by rw [HL.out])) (hjj _)
        generalize nextV x [a0, a1, a2, a3] (gi zs k) = nv at *
        obtain ⟨fn, tmps, assign, body, hy, hRd⟩ := hy0
        have hy' : Sem.run Try.prog (Instr.yield l #[.agg #[.int .i64 a0, .int .i64 a1, .int .i64 a2, .int .i64 a3, .int .i64 (gi (nextL x [a0, a1, a2, a3] nv) 0), .int .i64 (gi (nextL x [a0, a1, a2, a3] nv) 1), .int .i64 (gi (nextL x [a0, a1, a2, a3] nv) 2), .int .i64 (gi (nextL x [a0, a1, a2, a3] nv) 3)]]) (w1.alloc (.cells (l4 (nextL x [a0, a1, a2, a3] nv)) 72)) = _ := hy
        clear hin hy
        obtain ⟨hbA, kA, -⟩ := hA.out
        have hRd := zH hRd
        clear hjj
        gi_wp2_with fail
        refine ⟨fun h => by simp [Fence.wide] at h, ?_⟩
        refine hRd.out.mono ?_
        rintro e W2 (⟨rfl, M2, hJ2, hU⟩ | ⟨rfl, hJx⟩)
        · have hnA : ¬ M1 W.heap.size := fun h => (hm.out _ h).2.1 rfl
          replace hA := zH ((hA.out.alloc _).upd hU hnA)
          replace hX := zH ((hX.out.alloc _).upd hU (fun h => (hm.out _ h).2.2 (.inl rfl)))
          replace hZ := zH ((hZ.out.alloc _).upd hU (fun h => (hm.out _ h).2.2 (.inr (.inl rfl))))
          replace hR := zH ((hR.out.alloc _).upd hU (fun b' off' e h => (hm.out _ h).2.2 (.inr (.inr ⟨by omega, _, e⟩))))
          have hT := (Blk.new w1 (l4 (nextL x [a0, a1, a2, a3] nv)) 72).upd hU (fun h => by have := (hm.out _ h).1; omega)
          have hsz2 := hU.size
          simp only [World.size_alloc] at hsz2
          obtain ⟨-, kT, -⟩ := hT
          obtain ⟨hbA2, kA2, kA2f⟩ := hA.out
          have hJ2 := zH hJ2
          have hU := zH hU
          clear kA hy'
          gi_wp2_with fail
          go_roundw
          case rel =>
            have hb0 : b < W.heap.size := by
              obtain ⟨b', off', e, h, -⟩ := hRW.out.at hlt
              cases e; exact h
            have hn2 : ¬ M2 W.heap.size := fun h => (hU.out.grow _ h).elim hnA (fun h => by simp at h; omega)
            have hag := Agree.set4 (B := W.heap.size) (M := M2) W2 W.heap.size (.int .i64 (gi (nextL x [a0, a1, a2, a3] nv) 0)) (.int .i64 (gi (nextL x [a0, a1, a2, a3] nv) 1)) (.int .i64 (gi (nextL x [a0, a1, a2, a3] nv) 2)) (.int .i64 (gi (nextL x [a0, a1, a2, a3] nv) 3)) (Nat.le_refl _) hn2
            refine ⟨k + 1, by omega, by go_num, nv, a0, kp x 1 a1, kp x 2 a2, pre ++ [([a0, a1, a2, a3], nextL x [a0, a1, a2, a3] nv)], M2, hs', zH ?_, zH ?_, zH ?_, zH ?_, zH ?_, zH ?_, zH ?_, ?_⟩
            · exact hA.out.set4 _ _ _ _
            · exact hX.out.other4 (by omega) _ _ _ _
            · exact hZ.out.other4 (by omega) _ _ _ _
            · exact hR.out.other4 _ _ _ _ _ (fun b' off' e => by cases e; omega)
            · rw [hl.out, HL.out, List.append_assoc]; rfl
            · exact hJ.out _ _ _ _ hJ2.out hag
            · intro k' hk'
              refine ⟨Nat.lt_of_lt_of_le (hU.out.fit k' hk') hag.size, ?_⟩
              rcases hU.out.grow k' hk' with h | h
              · exact (hm.out k' h).2
              · simp only [World.size_alloc] at h
                refine ⟨by omega, ?_⟩
                rintro (rfl | rfl | ⟨-, off', e⟩)
                · omega
                · omega
                · cases e; omega
            · exact Nat.lt_of_lt_of_le hbA2 hag.size
          case measure => simp [intOf]; omega
        · gi_wp2_with fail
          refine bodyPost_ret (results_none rfl _ _ _) rfl ?_
          exact ⟨⟨_, rfl⟩, .inr ⟨pre, _, _, hl.out.trans (by rw [HL.out]), hJx⟩⟩
      | false =>
        have HL := zH (stepsL_off hlt hin)
        have hy0 := hY.out pre _ _ M1 (w1.alloc (.cells (l4 (nextL x [a0, a1, a2, a3] (nextV x [a0, a1, a2, a3] (gi zs k)))) 72)) (hl.out.trans (by rw [HL.out])) (hjj _)
        generalize nextV x [a0, a1, a2, a3] (gi zs k) = nv at *
        obtain ⟨fn, tmps, assign, body, hy, hRd⟩ := hy0
        have hy' : Sem.run Try.prog (Instr.yield l #[.agg #[.int .i64 a0, .int .i64 a1, .int .i64 a2, .int .i64 a3, .int .i64 (gi (nextL x [a0, a1, a2, a3] nv) 0), .int .i64 (gi (nextL x [a0, a1, a2, a3] nv) 1), .int .i64 (gi (nextL x [a0, a1, a2, a3] nv) 2), .int .i64 (gi (nextL x [a0, a1, a2, a3] nv) 3)]]) (w1.alloc (.cells (l4 (nextL x [a0, a1, a2, a3] nv)) 72)) = _ := hy
        clear hin hy
        obtain ⟨hbA, kA, -⟩ := hA.out
        have hRd := zH hRd
        clear hjj
        gi_wp2_with fail
        refine ⟨fun h => by simp [Fence.wide] at h, ?_⟩
        refine hRd.out.mono ?_
        rintro e W2 (⟨rfl, M2, hJ2, hU⟩ | ⟨rfl, hJx⟩)
        · have hJ2 := zH hJ2
          clear hU
          gi_wp2_with fail
          refine bodyPost_ret (results_none rfl _ _ _) rfl ?_
          exact ⟨⟨_, rfl⟩, .inl ⟨M2, by rw [hl.out, HL.out]; exact hJ2.out⟩⟩
        · gi_wp2_with fail
          refine bodyPost_ret (results_none rfl _ _ _) rfl ?_
          exact ⟨⟨_, rfl⟩, .inr ⟨pre, _, _, hl.out.trans (by rw [HL.out]), hJx⟩⟩
    · have : k = zs.length := by omega
      subst this
      gi_wp2_with fail
      go_end0
      refine ⟨⟨_, rfl⟩, .inl ⟨M1, ?_⟩⟩
      have e := hl.out
      rw [List.drop_length] at e
      simp only [stepsL, List.append_nil] at e
      rw [e]
      exact hj.out
end
end Go.Proofs.Ytfdlhhinomjakaa
