/-
  Texts of this claim, in their build order: D3 Lib8.
-/
import Derived.Test.YtfdlhhinomjakaaHel15
import Derived.Test.YtfdlhhinomjakaaHel6
import Derived.Test.YtfdlhhinomjakaaHel14
import Derived.Test.YtfdlhhinomjakaaHel0

namespace Go.Proofs.Ytfdlhhinomjakaa
section
open Go.RowKit
attribute [local go_sem] Oper.semAt_some

theorem range_split {j n : Nat} (h : j < n) : List.range n = List.range j ++ j :: (List.range n).drop (j + 1) := by
  have h1 := (List.take_append_drop j (List.range n)).symm
  rw [List.drop_eq_getElem_cons (by simpa using h)] at h1
  rw [List.take_range, Nat.min_eq_left (by omega)] at h1
  simpa using h1

/-- How many messages the j-th pair has; the pair as a slice. -/
def pairN (m j : Nat) : Nat := if 2 * j + 1 < m then 2 else 1
abbrev pairV (b off m j : Nat) : Value := .slice (some ⟨b, off + 2 * j * 3, none⟩) (pairN m j) (pairN m j)

theorem Chunk_any (a : Option Addr) (len cap : Nat) (w : World) :
    Calls Try.prog 68 #[.slice a len cap, .int .i64 2] w fun e w' => e = .returned (.func (.func 78) #[] #[.pointer (some ⟨w.heap.size, 0, none⟩), .pointer (some ⟨w.heap.size + 1, 0, none⟩)]) ∧
      (w.alloc (.cells #[.slice a len cap] 53)).alloc (.cells #[.int .i64 2] 3) = w' := by
  go_enter Try.func68, Try.ntmps68
  go_wp2_with fail
  go_ret
  exact ⟨rfl, rfl⟩

set_option maxHeartbeats 1600000 in
set_option maxRecDepth 100000 in
theorem chunk1_in (n m b off : Nat) (a : Option Addr) (cap bs bn : Nat) (w : World) (hlen : m ≤ 100000) (hcap : m ≤ cap) (ha : 0 < m → a = some ⟨b, off, none⟩)
    (hS : Blk w bs #[.slice a m cap]) (hN : Blk w bn #[.int .i64 2]) :
    SeqM n Try.prog 78 #[.pointer (some ⟨bs, 0, none⟩), .pointer (some ⟨bn, 0, none⟩)] (fun j => #[pairV b off m j]) (List.range ((m + 1) / 2)) (fun k => k = bs ∨ k = bn) w := by
  intro l J Jx M W hW hM hJ hY h0
  replace hS := zH (hS.to hW)
  replace hN := zH (hN.to hW)
  replace hM := zH hM
  replace hJ := zH hJ
  replace hY := zH hY
  replace h0 := zH h0
  obtain ⟨hbs0, k1, -⟩ := hS.out
  have hbn0 := hN.out.1
  refine callsIn_of_wp Try.func78 rfl trivial ?_ rfl
  simp only [Try.ntmps78, List.size_toArray, List.length_cons, List.length_nil, Nat.reduceAdd, Nat.reduceSub, Array.replicate_succ, Array.replicate_zero, List.push_toArray, List.append_toArray, List.nil_append, List.cons_append]
  gi_wp2_with fail
  clear k1
  gi_loopw [4] (fun i wr => ∃ i' j : Nat, i' ≤ m + 1 ∧ 2 * j = i' ∧ i = .int .i64 (i' : Int) ∧ ∃ M1 : Nat → Prop, Hid (Blk wr bs #[.slice a m cap]) ∧ Hid (Blk wr bn #[.int .i64 2]) ∧ Hid (J (List.range j) M1 wr) ∧ Hid (∀ k, M1 k → k < wr.heap.size ∧ ¬ (k = bs ∨ k = bn)) ∧ W.heap.size ≤ wr.heap.size) (fun i _ => m + 2 - (intOf i).toNat)
  case atStart =>
    exact ⟨0, 0, by omega, rfl, rfl, M, hS, hN, h0, hM, Nat.le_refl _⟩
  case round =>
    obtain ⟨i, j, hj, hij, rfl, M1, hS, hN, hj1, hm, hsz⟩ := hrel
    obtain ⟨-, kS, -⟩ := hS.out
    obtain ⟨-, kN, -⟩ := hN.out
    by_cases hlt : i < m
    · obtain rfl := ha (by omega)
      have hpn : pairN m j = 2 ∧ i + 1 < m ∨ pairN m j = 1 ∧ m = i + 1 := by unfold pairN; split <;> omega
      have HY := zH (range_split (show j < (m + 1) / 2 by omega))
      gi_wp2_with fail
      refine wpIn_wide.2 ?_
      refine wp_region_quiet_all (fun w' => Below (World.heap wr).size (wr) w') (by kernel_rfl) (by kernel_rfl) (Below.refl _ _).drew ?_
      have hci : (cap = i) = False := by rw [eq_iff_iff]; exact ⟨fun h => by omega, False.elim⟩
      have hci' : ¬ cap = i := by omega
      rcases hpn with ⟨hp1, hp2⟩ | ⟨hp1, hp2⟩
      · have HP := zH hp1
        clear hp1
        have hmin : (if ((m - i : Nat) : Int) < 2 then ((m - i : Nat) : Int) else 2) = 2 := by split <;> omega
        have hq1 : (i : Int) + 2 ≤ cap := by omega
        refine WQ.out ?_
        repeat (first | (refine WQ_no (by rfl) ?_; (simp only [Act.put, zzT, zzO, zzS])) | (refine WQ_yes (by rfl) ?_; apply Exists.intro; refine ⟨fun w1 hb1 => ?_, ?_⟩; (focus (((obtain ⟨-, k0, -⟩ := hS.out.to hb1; obtain ⟨-, k1, -⟩ := hN.out.to hb1); have hb1 := zH hb1; go_simp); (try (go_bits; try go_simp)); (try (rw [if_pos (by omega)]; try go_simp)); (first | done | (with_reducible rfl) | exact rfl))); (simp only [Act.put, zzT, zzO, zzS])))
        refine WQ_nil ?_
        intro w1 hb1
        replace hS := zH (hS.out.to hb1)
        replace hN := zH (hN.out.to hb1)
        have hsz1 : wr.heap.size ≤ w1.heap.size := hb1.size
        have hj2 := hJ.out _ _ _ _ hj1.out (Agree.of_below (M := M1) hb1 hsz)
        replace hm : Hid (∀ k, M1 k → k < w1.heap.size ∧ ¬ (k = bs ∨ k = bn)) := zH (fun k hk => ⟨by have := (hm.out k hk).1; omega, (hm.out k hk).2⟩)
        clear hj1 hb1 kS kN
        obtain ⟨fn, tmps, assign, body, hy, hRd⟩ := hY.out (List.range j) j _ M1 w1 HY.out hj2
        have hy' : Sem.run Try.prog (Instr.yield l #[.slice (some ⟨b, off + i * 3, none⟩) 2 2]) w1 = .ok (.round l fn tmps assign body) w1 := by
          have e1 : pairV b off m j = .slice (some ⟨b, off + i * 3, none⟩) 2 2 := by unfold pairV; rw [HP.out, hij]
          rw [← e1]
          exact hy
        clear hy
        obtain ⟨-, kS, -⟩ := hS.out
        have hRd := zH hRd
        gi_wp2_with fail
        refine ⟨fun h => by simp [Fence.wide] at h, ?_⟩
        refine hRd.out.mono ?_
        rintro e W2 (⟨rfl, M2, hJ2, hU⟩ | ⟨rfl, hJx⟩)
        · replace hS := zH (hS.out.upd hU (fun h => (hm.out _ h).2 (.inl rfl)))
          replace hN := zH (hN.out.upd hU (fun h => (hm.out _ h).2 (.inr rfl)))
          have hsz2 := hU.size
          have hJ2 := zH hJ2
          have hU := zH hU
          clear kS hy'
          obtain ⟨hbsW, -, -⟩ := hS.out
          obtain ⟨hbnW, kN, -⟩ := hN.out
          gi_wp2_with fail
          go_roundw
          case rel =>
            refine ⟨i + 2, j + 1, by omega, by omega, by go_num, M2, hS, hN, zH ?_, zH ?_, ?_⟩
            · rw [List.range_succ]; exact hJ2.out
            · intro k' hk'
              refine ⟨hU.out.fit k' hk', ?_⟩
              rcases hU.out.grow k' hk' with h | h
              · exact (hm.out k' h).2
              · have e1 := hbs0
                have e2 := hbn0
                rintro (rfl | rfl) <;> omega
            · omega
          case measure => simp [intOf]; omega
        · gi_wp2_with fail
          refine bodyPost_ret (results_none rfl _ _ _) rfl ?_
          exact ⟨⟨_, rfl⟩, .inr ⟨_, _, _, HY.out, hJx⟩⟩
      · have HP := zH hp1
        have HM := zH hp2
        clear hp1
        have hmin : (if ((m - i : Nat) : Int) < 2 then ((m - i : Nat) : Int) else 2) = 1 := by split <;> omega
        have hq1 : (i : Int) + 1 ≤ cap := by omega
        clear hp2
        refine WQ.out ?_
        repeat (first | (refine WQ_no (by rfl) ?_; (simp only [Act.put, zzT, zzO, zzS])) | (refine WQ_yes (by rfl) ?_; apply Exists.intro; refine ⟨fun w1 hb1 => ?_, ?_⟩; (focus (((obtain ⟨-, k0, -⟩ := hS.out.to hb1; obtain ⟨-, k1, -⟩ := hN.out.to hb1); have hb1 := zH hb1; go_simp); (try (go_bits; try go_simp)); (try (rw [if_pos (by omega)]; try go_simp)); (first | done | (with_reducible rfl) | exact rfl))); (simp only [Act.put, zzT, zzO, zzS])))
        refine WQ_nil ?_
        intro w1 hb1
        replace hS := zH (hS.out.to hb1)
        replace hN := zH (hN.out.to hb1)
        have hsz1 : wr.heap.size ≤ w1.heap.size := hb1.size
        have hj2 := hJ.out _ _ _ _ hj1.out (Agree.of_below (M := M1) hb1 hsz)
        replace hm : Hid (∀ k, M1 k → k < w1.heap.size ∧ ¬ (k = bs ∨ k = bn)) := zH (fun k hk => ⟨by have := (hm.out k hk).1; omega, (hm.out k hk).2⟩)
        clear hj1 hb1 kS kN
        obtain ⟨fn, tmps, assign, body, hy, hRd⟩ := hY.out (List.range j) j _ M1 w1 HY.out hj2
        have hy' : Sem.run Try.prog (Instr.yield l #[.slice (some ⟨b, off + i * 3, none⟩) 1 1]) w1 = .ok (.round l fn tmps assign body) w1 := by
          have e1 : pairV b off m j = .slice (some ⟨b, off + i * 3, none⟩) 1 1 := by unfold pairV; rw [HP.out, hij]
          rw [← e1]
          exact hy
        clear hy
        obtain ⟨-, kS, -⟩ := hS.out
        have hRd := zH hRd
        gi_wp2_with fail
        refine ⟨fun h => by simp [Fence.wide] at h, ?_⟩
        refine hRd.out.mono ?_
        rintro e W2 (⟨rfl, M2, hJ2, hU⟩ | ⟨rfl, hJx⟩)
        · replace hS := zH (hS.out.upd hU (fun h => (hm.out _ h).2 (.inl rfl)))
          replace hN := zH (hN.out.upd hU (fun h => (hm.out _ h).2 (.inr rfl)))
          have hsz2 := hU.size
          have hJ2 := zH hJ2
          have hU := zH hU
          clear kS hy'
          obtain ⟨hbsW, -, -⟩ := hS.out
          obtain ⟨hbnW, kN, -⟩ := hN.out
          gi_wp2_with fail
          go_roundw
          case rel =>
            refine ⟨i + 2, j + 1, by omega, by omega, by go_num, M2, hS, hN, zH ?_, zH ?_, ?_⟩
            · rw [List.range_succ]; exact hJ2.out
            · intro k' hk'
              refine ⟨hU.out.fit k' hk', ?_⟩
              rcases hU.out.grow k' hk' with h | h
              · exact (hm.out k' h).2
              · have e1 := hbs0
                have e2 := hbn0
                rintro (rfl | rfl) <;> omega
            · omega
          case measure => simp [intOf]; omega
        · gi_wp2_with fail
          refine bodyPost_ret (results_none rfl _ _ _) rfl ?_
          exact ⟨⟨_, rfl⟩, .inr ⟨_, _, _, HY.out, hJx⟩⟩
    · have : (m + 1) / 2 = j := by omega
      gi_wp2_with fail
      go_end0
      refine ⟨⟨_, rfl⟩, .inl ⟨M1, ?_⟩⟩
      rw [this]
      exact hj1.out
end
section
open Go.RowKit

/-- The box bo holds a slice of n elements, the cells xs, in memory of its own from block n0 on; M: what may be written. -/
def OutI (tS tE : TypeId) (size n0 bo : Nat) (w : World) (n : Nat) (xs : List Value) (M : Nat → Prop) (W : World) : Prop :=
  ∃ v, Boxed W bo tS v ∧ W.ownsRow n0 tE size v n xs ∧ Below n0 w W ∧ (∀ k, v.ownBlock = some k → M k) ∧ M bo ∧ (∀ k, M k → k < W.heap.size ∧ n0 ≤ k)

theorem agree_heap {B : Nat} {M : Nat → Prop} {W1 W2 : World} (h : Agree B M W1 W2) {b : Nat} {o : Obj} (hM : M b) (hb : W1.heap[b]? = some o) : W2.heap[b]? = some o :=
  (h.same b (Array.getElem?_eq_some_iff.1 hb).1 hM).trans hb
theorem OutI.agree {tS tE : TypeId} {size B n0 bo : Nat} {w : World} {n : Nat} {xs : List Value} {M : Nat → Prop} {W1 W2 : World} (h : OutI tS tE size n0 bo w n xs M W1) (hag : Agree B M W1 W2) (hB : n0 ≤ B) : OutI tS tE size n0 bo w n xs M W2 := by
  obtain ⟨v, hv, hr, hb, hvm, hbm, hm⟩ := h
  refine ⟨v, agree_heap hag hbm hv, ⟨hr.1, ?_⟩, hb.trans (hag.below.mono hB), hvm, hbm, fun k hk => ⟨Nat.lt_of_lt_of_le (hm k hk).1 hag.size, (hm k hk).2⟩⟩
  rcases hr.2 with hn | ⟨g, cap, cur, rfl, hbg, hg, rest⟩
  · exact .inl hn
  · exact .inr ⟨g, cap, cur, rfl, hbg, agree_heap hag (hvm g rfl) hg, rest⟩
theorem OutI.more {tS tE : TypeId} {size n0 bo : Nat} {w : World} {n : Nat} {xs : List Value} {M M' : Nat → Prop} {W : World} (h : OutI tS tE size n0 bo w n xs M W) (h1 : ∀ k, M k → M' k) (h2 : ∀ k, M' k → k < W.heap.size ∧ n0 ≤ k) : OutI tS tE size n0 bo w n xs M' W := by
  obtain ⟨v, hv, hr, hb, hvm, hbm, -⟩ := h
  exact ⟨v, hv, hr, hb, fun k hk => h1 k (hvm k hk), h1 _ hbm, h2⟩

/-- The cells of an owned row, whatever their size. -/
theorem Reads.of_row {W : World} {n₀ : Nat} {e : TypeId} {size : Nat} {v : Value} {n : Nat} {xs : List Value} {f : Nat → Value} (h : W.ownsRow n₀ e size v n xs) (hf : ∀ i, i < n * size → xs[i]? = some (f i)) :
    ∃ a cap, v = .slice a n cap ∧ n ≤ cap ∧ Reads W a (n * size) f ∧ (∀ p, a = some p → n₀ ≤ p.block) := by
  rcases h.2 with ⟨rfl, h0⟩ | ⟨g, cap, cur, rfl, hb, hg, hn, hc, hs, ht⟩
  · exact ⟨none, 0, by rw [h0], by omega, .inl (by rw [h0, Nat.zero_mul]), fun p hp => by cases hp⟩
  · refine ⟨_, cap, rfl, hn, .inr ⟨g, 0, rfl, (Array.getElem?_eq_some_iff.1 hg).1, fun i hi => ?_⟩, fun p hp => by cases hp; exact hb⟩
    have hcell := World.ownsRow.cellAt (w := W) (base := n₀) (e := e) (size := size) (g := g) (cap := cap) h i hi
    rw [Nat.zero_add, hcell]
    exact hf i hi

theorem boxedTo {W W' : World} {B : Nat} {t : TypeId} {v : Value} (h : Boxed W B t v) (hb : Below W.heap.size W W') : Boxed W' B t v := (hb.block B h.lt).trans h
theorem upd_app {W w1 : World} {n₀ B : Nat} {e : TypeId} {size : Nat} {v v' : Value} {m : Nat} {ys : List Value} {M : Nat → Prop}
    (hM : ∀ k, M k → k < W.heap.size) (hMB : M B) (hMv : ∀ k, v.ownBlock = some k → M k)
    (hown' : w1.ownsRow n₀ e size v' m ys) (hgrow : W.grownBy w1 v.ownBlock) (hwhere : v'.ownBlock = v.ownBlock ∨ v'.ownBlock = some W.heap.size) :
    Upd M (fun k => M k ∨ v'.ownBlock = some k) W (w1.setCell ⟨B, 0, none⟩ v') := by
  have hsz := hgrow.size
  have hss : (w1.setCell ⟨B, 0, none⟩ v').heap.size = w1.heap.size := by simp [World.setCell]
  refine ⟨hgrow.os, hgrow.tape, hgrow.output, by omega, fun k hk hm => ?_, fun k hk => ?_, fun k hk => ?_⟩
  · rw [Below.heap_setCell _ _ _ _ (show k ≠ B from fun e => hm (by rw [e]; exact hMB)), hgrow.block k hk (fun e => hm (hMv k e.symm))]
  · rcases hk with hk | hk
    · exact .inl hk
    · rcases hwhere with h | h
      · exact .inl (hMv k (h ▸ hk))
      · rw [h] at hk; cases hk; exact .inr (Nat.le_refl _)
  · rw [hss]
    rcases hk with hk | hk
    · have := hM k hk; omega
    · exact (hown'.lt k hk).2
theorem Blk.news {W : World} {b : Nat} {cs : Array Value} (h : Blk W b cs) : ∀ j u, cs.toList[j]? = some u → W.cell? ((⟨b, 0, none⟩ : Addr).add j) = some u := by
  intro j u hj
  have e : (⟨b, 0, none⟩ : Addr).add j = ⟨b, j, none⟩ := by unfold Addr.add; split <;> simp_all
  rw [e, h.2.1 j, ← hj, Array.getElem?_toList]

/-- A box's slice has been appended to, and stored: the box holds the longer one. -/
theorem OutI.app {tS tE : TypeId} {size n0 bo : Nat} {w W W1 w4 : World} {n m : Nat} {xs ys : List Value} {M : Nat → Prop} {v v' : Value} (hte : tS ≠ tE)
    (hv : Boxed W bo tS v) (hrow : W.ownsRow n0 tE size v n xs) (hb : Below n0 w W) (hvm : ∀ k, v.ownBlock = some k → M k) (hbm : M bo) (hfit : ∀ k, M k → k < W.heap.size ∧ n0 ≤ k)
    (h1 : Below W.heap.size W W1) (hown' : w4.ownsRow n0 tE size v' m ys) (hgrow : W1.grownBy w4 v.ownBlock) (hwhere : v'.ownBlock = v.ownBlock ∨ v'.ownBlock = some W1.heap.size) :
    ∃ M', OutI tS tE size n0 bo w m ys M' (w4.setCell ⟨bo, 0, none⟩ v') ∧ Upd M M' W (w4.setCell ⟨bo, 0, none⟩ v') := by
  have hv1 := (boxedTo hv h1).kept hgrow (hv.not_row hte hrow)
  have hu1 := Upd.of_below (fun k hk => (hfit k hk).1) h1
  have hu2 := upd_app hu1.fit hbm hvm hown' hgrow hwhere
  have hu := hu1.trans hu2
  refine ⟨_, ⟨v', hv1.set _, ?_, hb.trans (hu.below (by have := hrow; have := (hfit bo hbm); omega) (fun k hk => (hfit k hk).2)), fun k hk => .inr hk, .inl hbm, fun k hk => ⟨hu.fit k hk, ?_⟩⟩, hu⟩
  · exact hown'.kept (grownBy_setCell' w4 bo _) (.inr (hv1.not_row hte hown').symm)
  · rcases hk with hk | hk
    · exact (hfit k hk).2
    · exact (hown'.lt k hk).1
end
end Go.Proofs.Ytfdlhhinomjakaa
