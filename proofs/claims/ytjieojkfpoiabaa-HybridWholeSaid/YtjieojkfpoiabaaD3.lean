/-
  The iterator over the pairs of messages.
-/
import Derived.Test.YtjieojkfpoiabaaD2
import Derived.Test.YtjieojkfpoiabaaA7
namespace Go.Proofs.Ytjieojkfpoiabaa
open Go.RowKit
attribute [local go_sem] Oper.semAt_some

theorem range_split {j n : Nat} (h : j < n) : List.range n = List.range j ++ j :: (List.range n).drop (j + 1) := by
  have h1 := (List.take_append_drop j (List.range n)).symm
  rw [List.drop_eq_getElem_cons (by simpa using h)] at h1
  rw [List.take_range, Nat.min_eq_left (by omega)] at h1
  simpa using h1

/-- How many messages the j-th pair has; the pair as a slice. -/
def pairN (m j : Nat) : Nat := if 2 * j + 1 < m then 2 else 1
abbrev pairV (b off m j : Nat) : Value := .slice (some ⟨b, off + 2 * j * 3, none⟩) (pairN m j) (pairN m j)

theorem Chunk_any (a : Option Addr) (len cap : Nat) (w : World) :
    Calls Try.prog 123 #[.slice a len cap, .int .i64 2] w fun e w' => e = .returned (.func (.func 142) #[] #[.pointer (some ⟨w.heap.size, 0, none⟩), .pointer (some ⟨w.heap.size + 1, 0, none⟩)]) ∧
      (w.alloc (.cells #[.slice a len cap] 43)).alloc (.cells #[.int .i64 2] 3) = w' := by
  go_enter Try.func123, Try.ntmps123
  go_wp2_with fail
  go_ret
  exact ⟨rfl, rfl⟩

set_option maxHeartbeats 1600000 in
set_option maxRecDepth 100000 in
theorem chunk1_in (n m b off : Nat) (a : Option Addr) (cap bs bn : Nat) (w : World) (hlen : m ≤ 100000) (hcap : m ≤ cap) (ha : 0 < m → a = some ⟨b, off, none⟩)
    (hS : Blk w bs #[.slice a m cap]) (hN : Blk w bn #[.int .i64 2]) :
    SeqM n Try.prog 142 #[.pointer (some ⟨bs, 0, none⟩), .pointer (some ⟨bn, 0, none⟩)] (fun j => #[pairV b off m j]) (List.range ((m + 1) / 2)) (fun k => k = bs ∨ k = bn) w := by
  intro l J Jx M W hW hM hJ hY h0
  replace hS := Lib.hid (hS.to hW)
  replace hN := Lib.hid (hN.to hW)
  replace hM := Lib.hid hM
  replace hJ := Lib.hid hJ
  replace hY := Lib.hid hY
  replace h0 := Lib.hid h0
  obtain ⟨hbs0, k1, -⟩ := hS.out
  have hbn0 := hN.out.1
  refine callsIn_of_wp Try.func142 rfl trivial ?_ rfl
  simp only [Try.ntmps142, List.size_toArray, List.length_cons, List.length_nil, Nat.reduceAdd, Nat.reduceSub, Array.replicate_succ, Array.replicate_zero, List.push_toArray, List.append_toArray, List.nil_append, List.cons_append]
  gi_wp2_with fail
  clear k1
  gi_loopw [4] (fun i wr => ∃ i' j : Nat, i' ≤ m + 1 ∧ 2 * j = i' ∧ i = .int .i64 (i' : Int) ∧ ∃ M1 : Nat → Prop, Hid (Blk wr bs #[.slice a m cap]) ∧ Hid (Blk wr bn #[.int .i64 2]) ∧ Hid (J (List.range j) M1 wr) ∧ Hid (∀ k, M1 k → k < wr.heap.size ∧ ¬ (k = bs ∨ k = bn)) ∧ W.heap.size ≤ wr.heap.size) (fun i _ => m + 2 - (intOf i).toNat)
  case atStart =>
    exact ⟨0, 0, by omega, rfl, rfl, M, hS, hN, h0, hM, Nat.le_refl _⟩
  case round =>
    obtain ⟨i, j, hj, hij, rfl, M1, hS, hN, hj1, hm, hsz⟩ := hrel
    obtain ⟨-, kS, -⟩ := hS.out
    obtain ⟨-, kN, -⟩ := hN.out
    by_cases hlt : i < m
    · obtain rfl := ha (by omega)
      have hpn : pairN m j = 2 ∧ i + 1 < m ∨ pairN m j = 1 ∧ m = i + 1 := by unfold pairN; split <;> omega
      have HY := Lib.hid (range_split (show j < (m + 1) / 2 by omega))
      gi_wp2_with fail
      refine wpIn_wide.2 ?_
      refine wp_region_quiet_all (fun w' => Below (World.heap wr).size (wr) w') (by kernel_rfl) (by kernel_rfl) (Below.refl _ _).drew ?_
      have hci : (cap = i) = False := by rw [eq_iff_iff]; exact ⟨fun h => by omega, False.elim⟩
      have hci' : ¬ cap = i := by omega
      rcases hpn with ⟨hp1, hp2⟩ | ⟨hp1, hp2⟩
      · have HP := Lib.hid hp1
        clear hp1
        have hmin : (if ((m - i : Nat) : Int) < 2 then ((m - i : Nat) : Int) else 2) = 2 := by split <;> omega
        have hq1 : (i : Int) + 2 ≤ cap := by omega
        refine WQ.out ?_
        repeat (first | (refine WQ_no (by rfl) ?_; (simp only [Act.put, List.setIfInBounds_toArray, List.set_cons_zero, List.set_cons_succ])) | (refine WQ_yes (by rfl) ?_; apply Exists.intro; refine ⟨fun w1 hb1 => ?_, ?_⟩; (focus (((obtain ⟨-, k0, -⟩ := hS.out.to hb1; obtain ⟨-, k1, -⟩ := hN.out.to hb1); have hb1 := Lib.hid hb1; go_simp); (try (go_bits; try go_simp)); (try (rw [if_pos (by omega)]; try go_simp)); (first | done | (fail) | (with_reducible rfl) | exact rfl))); (simp only [Act.put, List.setIfInBounds_toArray, List.set_cons_zero, List.set_cons_succ])))
        refine WQ_nil ?_
        intro w1 hb1
        replace hS := Lib.hid (hS.out.to hb1)
        replace hN := Lib.hid (hN.out.to hb1)
        have hsz1 : wr.heap.size ≤ w1.heap.size := hb1.size
        have hj2 := hJ.out _ _ _ _ hj1.out (Agree.of_below (M := M1) hb1 hsz)
        replace hm : Hid (∀ k, M1 k → k < w1.heap.size ∧ ¬ (k = bs ∨ k = bn)) := Lib.hid (fun k hk => ⟨by have := (hm.out k hk).1; omega, (hm.out k hk).2⟩)
        clear hj1 hb1 kS kN
        obtain ⟨fn, tmps, assign, body, hy, hRd⟩ := hY.out (List.range j) j _ M1 w1 HY.out hj2
        have hy' : Sem.run Try.prog (Instr.yield l #[.slice (some ⟨b, off + i * 3, none⟩) 2 2]) w1 = .ok (.round l fn tmps assign body) w1 := by
          have e1 : pairV b off m j = .slice (some ⟨b, off + i * 3, none⟩) 2 2 := by unfold pairV; rw [HP.out, hij]
          rw [← e1]
          exact hy
        clear hy
        obtain ⟨-, kS, -⟩ := hS.out
        have hRd := Lib.hid hRd
        gi_wp2_with fail
        refine ⟨fun h => by simp [Fence.wide] at h, ?_⟩
        refine hRd.out.mono ?_
        rintro e W2 (⟨rfl, M2, hJ2, hU⟩ | ⟨rfl, hJx⟩)
        · replace hS := Lib.hid (hS.out.upd hU (fun h => (hm.out _ h).2 (.inl rfl)))
          replace hN := Lib.hid (hN.out.upd hU (fun h => (hm.out _ h).2 (.inr rfl)))
          have hsz2 := hU.size
          have hJ2 := Lib.hid hJ2
          have hU := Lib.hid hU
          clear kS hy'
          obtain ⟨hbsW, -, -⟩ := hS.out
          obtain ⟨hbnW, kN, -⟩ := hN.out
          gi_wp2_with fail
          go_roundw
          case rel =>
            refine ⟨i + 2, j + 1, by omega, by omega, by go_num, M2, hS, hN, Lib.hid ?_, Lib.hid ?_, ?_⟩
            · rw [List.range_succ]; exact hJ2.out
            · intro k' hk'
              refine ⟨hU.out.fit k' hk', ?_⟩
              rcases hU.out.grow k' hk' with h | h
              · exact (hm.out k' h).2
              · have e1 := hbs0
                have e2 := hbn0
                rintro (rfl | rfl) <;> omega
            · omega
          case measure => simp [intOf]; omega
        · gi_wp2_with fail
          refine bodyPost_ret (results_none rfl _ _ _) rfl ?_
          exact ⟨⟨_, rfl⟩, .inr ⟨_, _, _, HY.out, hJx⟩⟩
      · have HP := Lib.hid hp1
        have HM := Lib.hid hp2
        clear hp1
        have hmin : (if ((m - i : Nat) : Int) < 2 then ((m - i : Nat) : Int) else 2) = 1 := by split <;> omega
        have hq1 : (i : Int) + 1 ≤ cap := by omega
        clear hp2
        refine WQ.out ?_
        repeat (first | (refine WQ_no (by rfl) ?_; (simp only [Act.put, List.setIfInBounds_toArray, List.set_cons_zero, List.set_cons_succ])) | (refine WQ_yes (by rfl) ?_; apply Exists.intro; refine ⟨fun w1 hb1 => ?_, ?_⟩; (focus (((obtain ⟨-, k0, -⟩ := hS.out.to hb1; obtain ⟨-, k1, -⟩ := hN.out.to hb1); have hb1 := Lib.hid hb1; go_simp); (try (go_bits; try go_simp)); (try (rw [if_pos (by omega)]; try go_simp)); (first | done | (fail) | (with_reducible rfl) | exact rfl))); (simp only [Act.put, List.setIfInBounds_toArray, List.set_cons_zero, List.set_cons_succ])))
        refine WQ_nil ?_
        intro w1 hb1
        replace hS := Lib.hid (hS.out.to hb1)
        replace hN := Lib.hid (hN.out.to hb1)
        have hsz1 : wr.heap.size ≤ w1.heap.size := hb1.size
        have hj2 := hJ.out _ _ _ _ hj1.out (Agree.of_below (M := M1) hb1 hsz)
        replace hm : Hid (∀ k, M1 k → k < w1.heap.size ∧ ¬ (k = bs ∨ k = bn)) := Lib.hid (fun k hk => ⟨by have := (hm.out k hk).1; omega, (hm.out k hk).2⟩)
        clear hj1 hb1 kS kN
        obtain ⟨fn, tmps, assign, body, hy, hRd⟩ := hY.out (List.range j) j _ M1 w1 HY.out hj2
        have hy' : Sem.run Try.prog (Instr.yield l #[.slice (some ⟨b, off + i * 3, none⟩) 1 1]) w1 = .ok (.round l fn tmps assign body) w1 := by
          have e1 : pairV b off m j = .slice (some ⟨b, off + i * 3, none⟩) 1 1 := by unfold pairV; rw [HP.out, hij]
          rw [← e1]
          exact hy
        clear hy
        obtain ⟨-, kS, -⟩ := hS.out
        have hRd := Lib.hid hRd
        gi_wp2_with fail
        refine ⟨fun h => by simp [Fence.wide] at h, ?_⟩
        refine hRd.out.mono ?_
        rintro e W2 (⟨rfl, M2, hJ2, hU⟩ | ⟨rfl, hJx⟩)
        · replace hS := Lib.hid (hS.out.upd hU (fun h => (hm.out _ h).2 (.inl rfl)))
          replace hN := Lib.hid (hN.out.upd hU (fun h => (hm.out _ h).2 (.inr rfl)))
          have hsz2 := hU.size
          have hJ2 := Lib.hid hJ2
          have hU := Lib.hid hU
          clear kS hy'
          obtain ⟨hbsW, -, -⟩ := hS.out
          obtain ⟨hbnW, kN, -⟩ := hN.out
          gi_wp2_with fail
          go_roundw
          case rel =>
            refine ⟨i + 2, j + 1, by omega, by omega, by go_num, M2, hS, hN, Lib.hid ?_, Lib.hid ?_, ?_⟩
            · rw [List.range_succ]; exact hJ2.out
            · intro k' hk'
              refine ⟨hU.out.fit k' hk', ?_⟩
              rcases hU.out.grow k' hk' with h | h
              · exact (hm.out k' h).2
              · have e1 := hbs0
                have e2 := hbn0
                rintro (rfl | rfl) <;> omega
            · omega
          case measure => simp [intOf]; omega
        · gi_wp2_with fail
          refine bodyPost_ret (results_none rfl _ _ _) rfl ?_
          exact ⟨⟨_, rfl⟩, .inr ⟨_, _, _, HY.out, hJx⟩⟩
    · have : (m + 1) / 2 = j := by omega
      gi_wp2_with fail
      go_end0
      refine ⟨⟨_, rfl⟩, .inl ⟨M1, ?_⟩⟩
      rw [this]
      exact hj1.out

end Go.Proofs.Ytjieojkfpoiabaa
