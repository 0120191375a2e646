/-
  Texts of this claim, in their build order: M5.
-/
import Derived.Test.YtmofgejoogikfaaTop40
import Derived.Test.YtmofgejoogikfaaTop7

/-
  slices.Backward; the drifts of a frame under forces.
-/
namespace Go.Proofs.Ytmofgejoogikfaa
open Go.RowKit

/-- The numbers of a list with their indices, from the last one on. -/
def backL (zs : List Int) : Nat → List (Nat × Int)
  | 0 => []
  | k + 1 => (k, gi zs k) :: backL zs k
theorem backL_len (zs : List Int) : ∀ n, (backL zs n).length = n
  | 0 => rfl
  | n + 1 => by unfold backL; rw [List.length_cons, backL_len zs n]
theorem backL_get (zs : List Int) : ∀ (n : Nat) (pre : List (Nat × Int)) (x : Nat × Int) (rest : List (Nat × Int)), backL zs n = pre ++ x :: rest → x.1 + pre.length + 1 = n ∧ x.2 = gi zs x.1
  | 0, pre, x, rest, h => by unfold backL at h; exact absurd h (by simp)
  | n + 1, [], x, rest, h => by
    unfold backL at h
    injection h with h1 h2
    subst h1
    exact ⟨by simp, rfl⟩
  | n + 1, p :: pre, x, rest, h => by
    unfold backL at h
    injection h with h1 h2
    obtain ⟨g1, g2⟩ := backL_get zs n pre x rest h2
    exact ⟨by rw [List.length_cons]; omega, g2⟩

theorem Backward_any (a : Option Addr) (n cap : Nat) (w : World) :
    Calls Try.prog 51 #[.slice a n cap] w fun e w' => e = .returned (.func (.func 101) #[] #[.pointer (some ⟨w.heap.size, 0, none⟩)]) ∧ w.alloc (.cells #[.slice a n cap] 22) = w' := by
  go_enter Try.func51, Try.ntmps51
  go_wp2_with fail
  go_ret
  exact ⟨rfl, rfl⟩

set_option maxHeartbeats 1600000 in
set_option maxRecDepth 100000 in
theorem back_in (n : Nat) (zs : List Int) (a : Option Addr) (cap bz : Nat) (w : World) (hlen : zs.length ≤ 1000) (hZ : Blk w bz #[.slice a zs.length cap]) (hR : Reads w a zs.length (ints zs)) :
    SeqM n Try.prog 101 #[.pointer (some ⟨bz, 0, none⟩)] (fun s : Nat × Int => #[.int .i64 (s.1 : Int), .int .i64 s.2]) (backL zs zs.length) (fun k => k = bz ∨ (0 < zs.length ∧ ∃ off, a = some ⟨k, off, none⟩)) w := by
  intro l J Jx M W hW hM hJ hY h0
  replace hZ := Lib.hid (hZ.to hW)
  replace hR := Lib.hid (hR.to hW)
  replace hM := Lib.hid hM
  replace hJ := Lib.hid hJ
  replace hY := Lib.hid hY
  replace h0 := Lib.hid h0
  obtain ⟨hbz, k1, -⟩ := hZ.out
  obtain ⟨m, hm⟩ : ∃ m, zs.length = m := ⟨_, rfl⟩
  rw [hm] at hlen hZ hR hM hY k1 ⊢
  have HZL := Lib.hid hm
  clear hm
  refine callsIn_of_wp Try.func101 rfl trivial ?_ rfl
  simp only [Try.ntmps101, List.size_toArray, List.length_cons, List.length_nil, Nat.reduceAdd, Nat.reduceSub, Array.replicate_succ, Array.replicate_zero, List.push_toArray, List.append_toArray, List.nil_append, List.cons_append]
  gi_wp2_with fail
  clear k1
  gi_loopw [3] (fun i wr => ∃ k : Nat, k ≤ m ∧ i = .int .i64 ((k : Int) - 1) ∧ ∃ (pre : List (Nat × Int)) (M1 : Nat → Prop), Hid (Blk wr bz #[.slice a m cap]) ∧ Hid (Reads wr a m (ints zs)) ∧
      Hid (backL zs m = pre ++ backL zs k) ∧ Hid (J pre M1 wr) ∧ Hid (∀ k, M1 k → k < wr.heap.size ∧ ¬ (k = bz ∨ (0 < m ∧ ∃ off, a = some ⟨k, off, none⟩)))) (fun i _ => (intOf i + 1).toNat)
  case atStart => exact ⟨m, Nat.le_refl _, rfl, [], M, hZ, hR, Lib.hid rfl, h0, hM⟩
  case round =>
    obtain ⟨k, hk, rfl, pre, M1, hZ, hR, hl, hj, hm⟩ := hrel
    by_cases hlt : 0 < k
    · obtain ⟨j, rfl⟩ : ∃ j, k = j + 1 := ⟨k - 1, by omega⟩
      have hjv : ((j + 1 : Nat) : Int) - 1 = (j : Int) := by omega
      rw [hjv]
      have hge : decide ((0 : Int) ≤ (j : Int)) = true := decide_eq_true (by omega)
      obtain ⟨b, off, rfl, hb, hc⟩ := hR.out.at (k := j) (by omega)
      have h1 : wr.cell? ⟨b, off + j, none⟩ = some (.int .i64 (gi zs j)) := hc j (by omega)
      have hjm : decide ((j : Int) < (m : Int)) = true := decide_eq_true (by omega)
      clear hc
      obtain ⟨-, kZ, -⟩ := hZ.out
      have hy0 := hY.out pre (j, gi zs j) (backL zs j) M1 wr hl.out hj.out
      obtain ⟨fn, tmps, assign, body, hy, hRd⟩ := hy0
      have hy' : Sem.run Try.prog (Instr.yield l #[.int .i64 (j : Int), .int .i64 (gi zs j)]) wr = _ := hy
      have hRd := Lib.hid hRd
      clear hy
      gi_wp2_with fail
      refine ⟨fun h => by simp [Fence.wide] at h, ?_⟩
      refine hRd.out.mono ?_
      rintro e W2 (⟨rfl, M2, hJ2, hU⟩ | ⟨rfl, hJx⟩)
      · have hbzr : bz < wr.heap.size := hZ.out.1
        replace hZ := Lib.hid (hZ.out.upd hU (fun h => (hm.out _ h).2 (.inl rfl)))
        replace hR := Lib.hid (hR.out.upd hU (fun b' off' e h => (hm.out _ h).2 (.inr ⟨by omega, _, e⟩)))
        have hJ2 := Lib.hid hJ2
        have hU := Lib.hid hU
        clear hy' kZ h1
        gi_wp2_with fail
        go_roundw
        case rel =>
          refine ⟨j, by omega, rfl, pre ++ [(j, gi zs j)], M2, hZ, hR, Lib.hid ?_, hJ2, Lib.hid ?_⟩
          · rw [hl.out, List.append_assoc]; rfl
          · intro k' hk'
            refine ⟨hU.out.fit k' hk', ?_⟩
            rcases hU.out.grow k' hk' with h | h
            · exact (hm.out k' h).2
            · rintro (rfl | ⟨-, off', e⟩)
              · omega
              · cases e; omega
        case measure => simp [intOf]
      · gi_wp2_with fail
        refine bodyPost_ret (results_none rfl _ _ _) rfl ?_
        exact ⟨⟨_, rfl⟩, .inr ⟨pre, (j, gi zs j), backL zs j, hl.out, hJx⟩⟩
    · obtain rfl : k = 0 := by omega
      have hge : decide ((0 : Int) ≤ (((0 : Nat) : Int) - 1)) = false := by decide
      gi_wp2_with fail
      go_end0
      refine ⟨⟨_, rfl⟩, .inl ⟨M1, ?_⟩⟩
      have e : backL zs m = pre ++ [] := hl.out
      rw [List.append_nil] at e
      rw [e]
      exact hj.out

theorem make_fracs (L : Nat) (hL : L ≤ 100000) (W : World) : (Instr.makeSlice 35 (.int .i64 L) (.int .i64 L)).run Try.prog W = .ok (.slice (some ⟨W.heap.size, 0, none⟩) L L) (W.alloc (.cells (madeCells #[.int .i64 0, .int .i64 0] (L * 2)) 55)) := by
  obtain ⟨i, h1, h2, h3, h4⟩ := info_parts (show (Try.prog.info? 55).map (fun i => (i.zero, i.size, i.bytes)) = some (some (.agg #[.int .i64 0, .int .i64 0]), 2, 16) by kernel_rfl)
  have h := run_makeSlice (P := Try.prog) W 35 55 i (.agg #[.int .i64 0, .int .i64 0]) (by kernel_rfl) h1 h2 .i64 .i64 L L (by omega) (Int.le_refl _) (by rw [h3, Int.toNat_natCast]; omega) (by rw [h4]; omega) (by omega)
  rw [h3, Int.toNat_natCast] at h
  exact h
theorem made_get (L i : Nat) (h : i < L * 2) : (madeCells #[.int .i64 0, .int .i64 0] (L * 2))[i]? = some (.int .i64 0) := by
  unfold madeCells
  rcases Nat.mod_two_eq_zero_or_one i with e | e <;> simp [h, e]

/-- The drifts, those from k on. -/
def driF (ks fs : List Int) (k j c : Nat) : Value := if j < k then .int .i64 0 else .int .i64 (if c = 0 then (drf ks fs j).1 else (drf ks fs j).2)
theorem dri_set {ks fs : List Int} {cur : Array Value} {n j : Nat} (h : ∀ i, i < n * 2 → cur[i]? = some (recs 2 (driF ks fs (j + 1)) i)) :
    ∀ i, i < n * 2 → ((cur.setIfInBounds (j * 2) (.int .i64 (drf ks fs j).1)).setIfInBounds (j * 2 + 1) (.int .i64 (drf ks fs j).2))[i]? = some (recs 2 (driF ks fs j) i) := by
  have hs : ∀ i, i < n * 2 → i < cur.size := fun i hi => (Array.getElem?_eq_some_iff.1 (h i hi)).1
  intro i hi
  by_cases h1 : i = j * 2 + 1
  · subst h1
    rw [recs_at (by decide), Array.getElem?_setIfInBounds_self_of_lt (by rw [Array.size_setIfInBounds]; exact hs _ hi)]
    unfold driF
    rw [if_neg (Nat.lt_irrefl j), if_neg (by decide)]
  · rw [Array.getElem?_setIfInBounds_ne (fun e => h1 e.symm)]
    by_cases h0 : i = j * 2
    · subst h0
      rw [recs_at0 (by decide), Array.getElem?_setIfInBounds_self_of_lt (hs _ hi)]
      unfold driF
      rw [if_neg (Nat.lt_irrefl j), if_pos rfl]
    · rw [Array.getElem?_setIfInBounds_ne (fun e => h0 e.symm), h i hi]
      unfold recs driF
      have : ¬ i / 2 = j := by omega
      by_cases hlt : i / 2 < j
      · rw [if_pos hlt, if_pos (by omega)]
      · rw [if_neg hlt, if_neg (by omega)]
/-- What the loop of DriftsUnder keeps: the drifts from kr on, and the sum of the forces there. -/
structure DriJ (ks fs : List Int) (n go b10 b11 b12 : Nat) (ka : Option Addr) (kc : Nat) (w : World) (kr : Nat) (S : Int) (M1 : Nat → Prop) (W : World) : Prop where
  row : ∃ cur, Blk W go cur ∧ ∀ i, i < n * 2 → cur[i]? = some (recs 2 (driF ks fs kr) i)
  k10 : Blk W b10 #[.slice (some ⟨go, 0, none⟩) n n]
  k11 : Blk W b11 #[.int .i64 S]
  k12 : Blk W b12 #[.slice ka n kc]
  ks : Reads W ka n (ints ks)
  below : Below w.heap.size w W
  mgo : M1 go
  m11 : M1 b11
  fit : ∀ k, M1 k → k < W.heap.size ∧ w.heap.size ≤ k
  ne1 : go ≠ b10 ∧ go ≠ b11 ∧ go ≠ b12 ∧ b11 ≠ b10 ∧ b11 ≠ b12
  ne2 : ∀ b off, ka = some ⟨b, off, none⟩ → b ≠ go ∧ b ≠ b11
section
variable {ks fs : List Int} {n go b10 b11 b12 : Nat} {ka : Option Addr} {kc : Nat} {w : World} {kr : Nat} {S : Int} {M1 : Nat → Prop} {W W1 W2 : World}
theorem DriJ.to (h : DriJ ks fs n go b10 b11 b12 ka kc w kr S M1 W) (hb : Below W.heap.size W W1) : DriJ ks fs n go b10 b11 b12 ka kc w kr S M1 W1 := by
  obtain ⟨cur, hc, hcc⟩ := h.row
  exact ⟨⟨cur, hc.to hb, hcc⟩, h.k10.to hb, h.k11.to hb, h.k12.to hb, h.ks.to hb, bThen h.below hb, h.mgo, h.m11, fun k hk => ⟨Nat.lt_of_lt_of_le (h.fit k hk).1 hb.size, (h.fit k hk).2⟩, h.ne1, h.ne2⟩
theorem DriJ.sum (h : DriJ ks fs n go b10 b11 b12 ka kc w kr S M1 W) (T : Int) : DriJ ks fs n go b10 b11 b12 ka kc w kr T M1 (W.setCell ⟨b11, 0, none⟩ (.int .i64 T)) := by
  obtain ⟨cur, hc, hcc⟩ := h.row
  obtain ⟨n1, n2, n3, n4, n5⟩ := h.ne1
  exact ⟨⟨cur, hc.other (p := ⟨b11, 0, none⟩) (Ne.symm n2) _, hcc⟩, h.k10.other (p := ⟨b11, 0, none⟩) n4 _, h.k11.set 0 _, h.k12.other (p := ⟨b11, 0, none⟩) n5 _, h.ks.other _ _ (fun b off e => (h.ne2 b off e).2), h.below.setCell (p := ⟨b11, 0, none⟩) (h.fit _ h.m11).2 _, h.mgo, h.m11,
    fun k hk => ⟨by simpa [World.setCell] using (h.fit k hk).1, (h.fit k hk).2⟩, h.ne1, h.ne2⟩
theorem DriJ.put {j : Nat} (h : DriJ ks fs n go b10 b11 b12 ka kc w (j + 1) S M1 W) :
    DriJ ks fs n go b10 b11 b12 ka kc w j S M1 ((W.setCell ⟨go, j * 2, none⟩ (.int .i64 (drf ks fs j).1)).setCell ⟨go, j * 2 + 1, none⟩ (.int .i64 (drf ks fs j).2)) := by
  obtain ⟨cur, hc, hcc⟩ := h.row
  obtain ⟨n1, n2, n3, n4, n5⟩ := h.ne1
  have ot : ∀ {b : Nat} {cs : Array Value}, go ≠ b → Blk W b cs → Blk ((W.setCell ⟨go, j * 2, none⟩ (.int .i64 (drf ks fs j).1)).setCell ⟨go, j * 2 + 1, none⟩ (.int .i64 (drf ks fs j).2)) b cs :=
    fun hne hb => (hb.other (p := ⟨go, _, none⟩) hne _).other (p := ⟨go, _, none⟩) hne _
  exact ⟨⟨_, (hc.set (j * 2) _).set (j * 2 + 1) _, dri_set hcc⟩, ot n1 h.k10, ot n2 h.k11, ot n3 h.k12, (h.ks.other _ _ (fun b off e => (h.ne2 b off e).1)).other _ _ (fun b off e => (h.ne2 b off e).1),
    (h.below.setCell (p := ⟨go, j * 2, none⟩) (h.fit _ h.mgo).2 _).setCell (p := ⟨go, j * 2 + 1, none⟩) (h.fit _ h.mgo).2 _, h.mgo, h.m11, fun k hk => ⟨by simpa [World.setCell] using (h.fit k hk).1, (h.fit k hk).2⟩, h.ne1, h.ne2⟩
end
/-- Ahead of the next round. -/
def DriI (ks fs : List Int) (n go b10 b11 b12 : Nat) (ka : Option Addr) (kc : Nat) (w : World) (pre : List (Nat × Int)) (M1 : Nat → Prop) (W : World) : Prop :=
  DriJ ks fs n go b10 b11 b12 ka kc w (n - pre.length) ((fs.drop (n - pre.length)).sum) M1 W
theorem Blk.agreeLow {B : Nat} {M : Nat → Prop} {W1 W2 : World} {b : Nat} {cs : Array Value} (h : Blk W1 b cs) (hag : Agree B M W1 W2) (hb : b < B) : Blk W2 b cs := h.below hag.below hb
theorem DriI.agree {ks fs : List Int} {n go b10 b11 b12 : Nat} {ka : Option Addr} {kc : Nat} {w : World} {pre : List (Nat × Int)} {M1 : Nat → Prop} {B : Nat} {W1 W2 : World} (h : DriI ks fs n go b10 b11 b12 ka kc w pre M1 W1) (hag : Agree B M1 W1 W2)
    (hw : w.heap.size ≤ B) (h1 : go < B) (h2 : b10 < B) (h3 : b11 < B) (h4 : b12 < B) (h5 : ∀ b off, ka = some ⟨b, off, none⟩ → b < B) : DriI ks fs n go b10 b11 b12 ka kc w pre M1 W2 := by
  obtain ⟨cur, hc, hcc⟩ := DriJ.row h
  have h : DriJ ks fs n go b10 b11 b12 ka kc w (n - pre.length) ((fs.drop (n - pre.length)).sum) M1 W1 := h
  refine ⟨⟨cur, hc.agreeLow hag h1, hcc⟩, h.k10.agreeLow hag h2, h.k11.agreeLow hag h3, h.k12.agreeLow hag h4, ?_, h.below.trans (hag.below.mono hw), h.mgo, h.m11, fun k hk => ⟨Nat.lt_of_lt_of_le (h.fit k hk).1 hag.size, (h.fit k hk).2⟩, h.ne1, h.ne2⟩
  rcases h.ks with h0 | ⟨b, off, rfl, hb, hcc⟩
  · exact .inl h0
  · exact .inr ⟨b, off, rfl, Nat.lt_of_lt_of_le hb hag.size, fun i hi => by rw [hag.below.cell (p := ⟨b, off + i, none⟩) (h5 b off rfl)]; exact hcc i hi⟩
theorem drop_bd {fs : List Int} (hf : ∀ k, k < fs.length → -1000 ≤ gi fs k ∧ gi fs k ≤ 1000) : ∀ m k, k + m = fs.length → -1000 * (m : Int) ≤ (fs.drop k).sum ∧ (fs.drop k).sum ≤ 1000 * (m : Int)
  | 0, k, h => by rw [List.drop_of_length_le (by omega)]; simp
  | m + 1, k, h => by
    have h1 := drop_bd hf m (k + 1) (by omega)
    have h2 := hf k (by omega)
    rw [drop_sum (by omega)]
    omega

end Go.Proofs.Ytmofgejoogikfaa

