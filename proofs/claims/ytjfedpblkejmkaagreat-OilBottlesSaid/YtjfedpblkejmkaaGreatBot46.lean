/-
  Texts of this claim, in their build order: OR24 OR29 OM30.
-/
import Derived.Test.YtjfedpblkejmkaaGreatBot45
import Derived.Test.YtjfedpblkejmkaaGreatBot40
import Derived.Test.YtjfedpblkejmkaaGreatBot17
import Derived.Test.YtjfedpblkejmkaaGreatBot44
import Derived.Test.YtjfedpblkejmkaaGreatBot26
import Derived.Test.YtjfedpblkejmkaaGreatBot0

namespace Go.Proofs.YtjfedpblkejmkaaGreat
section
open Go.RowKit
attribute [local go_sem] Oper.semAt_some

set_option maxHeartbeats 1600000 in
set_option maxRecDepth 100000 in
theorem Ranges_any (zs ys : List (Int × Int)) (a b : Option Addr) (ca cb : Nat) (w : World) (hlz : zs.length ≤ maxLen) (hra : Reads w a (zs.length * 2) (fracs zs)) (hrb : Reads w b (ys.length * 2) (fracs ys)) :
    Calls Tryz.prog 73 #[.slice a zs.length ca, .slice b ys.length cb] w fun e w' => e = .returned (.bool (decide (zs = ys))) ∧ Below w.heap.size w w' := by
  unfold maxLen at hlz
  have HA := zH hra
  have HB := zH hrb
  clear hra hrb
  by_cases hl : zs.length = ys.length
  · have HL := zH hl
    have hl1 : zs.length ≤ ys.length := by omega
    have hl2 : ys.length ≤ zs.length := by omega
    clear hl
    go_enter Tryz.func73, Tryz.ntmps73
    go_wp2_with fail
    go_loopw [5] (fun i wr => ∃ k : Nat, k ≤ zs.length ∧ i = .int .i64 k ∧ Hid (∀ j, j < k → fg zs j = fg ys j) ∧ Hid (Below w.heap.size w wr)) (fun i _ => zs.length - (intOf i).toNat)
    case atStart => exact ⟨0, Nat.zero_le _, rfl, zH (by intro j h; omega), zH (bSelf w)⟩
    case round =>
      obtain ⟨k, hk, rfl, hp, hB⟩ := hrel
      by_cases hlt : k < zs.length
      · have hlt2 : k < ys.length := by omega
        obtain ⟨ba, oa, rfl, hba, hca⟩ := (HA.out.to hB.out).at (k := k * 2) (by omega)
        obtain ⟨bb, ob, rfl, hbb, hcb⟩ := (HB.out.to hB.out).at (k := k * 2) (by omega)
        obtain ⟨n1, d1, hz⟩ : ∃ n1 d1, fg zs k = (n1, d1) := ⟨_, _, rfl⟩
        obtain ⟨n2, d2, hy⟩ : ∃ n2 d2, fg ys k = (n2, d2) := ⟨_, _, rfl⟩
        have h1 : Hid (wr.cell? ⟨ba, oa + k * 2, none⟩ = some (.int .i64 n1)) := zH (by rw [hca _ (by omega), fracs0, hz])
        have h2 : Hid (wr.cell? ⟨ba, oa + k * 2 + 1, none⟩ = some (.int .i64 d1)) := zH (by rw [Nat.add_assoc, hca _ (by omega), fracs1, hz])
        have h3 : Hid (wr.cell? ⟨bb, ob + k * 2, none⟩ = some (.int .i64 n2)) := zH (by rw [hcb _ (by omega), fracs0, hy])
        have h4 : Hid (wr.cell? ⟨bb, ob + k * 2 + 1, none⟩ = some (.int .i64 d2)) := zH (by rw [Nat.add_assoc, hcb _ (by omega), fracs1, hy])
        clear hca hcb
        have HZ := zH hz
        have HY := zH hy
        clear hz hy
        by_cases he : (n1, d1) = (n2, d2)
        · cases he
          go_wp2_with fail
          refine wp_region_quiet_all (fun w' => Below (World.heap wr).size (wr) w') (by kernel_rfl) (by kernel_rfl) (Below.refl _ _).drew ?_
          refine WQ.out ?_
          repeat (first | (refine WQ_no (by rfl) ?_; (simp only [Act.put, zzT, zzO, zzS])) | (refine WQ_yes (by rfl) ?_; apply Exists.intro; refine ⟨fun w1 hb1 => ?_, ?_⟩; (focus (((have k1 := (hb1.cell (p := ⟨ba, oa + k * 2, none⟩) hba).trans h1.out; have k2 := (hb1.cell (p := ⟨ba, oa + k * 2 + 1, none⟩) hba).trans h2.out; have k3 := (hb1.cell (p := ⟨bb, ob + k * 2, none⟩) hbb).trans h3.out; have k4 := (hb1.cell (p := ⟨bb, ob + k * 2 + 1, none⟩) hbb).trans h4.out); have hb1 := zH hb1; go_simp); (try (go_bits; try go_simp)); (try (rw [if_pos (by omega)]; try go_simp)); (first | done | (with_reducible rfl) | exact rfl))); (simp only [Act.put, zzT, zzO, zzS])))
          refine WQ_nil ?_
          intro w1 hb1
          go_wp2_with fail
          go_roundw
          case rel =>
            refine ⟨k + 1, by omega, by go_num, zH (fun j hj => ?_), zH (bThen hB.out hb1)⟩
            by_cases h : j = k
            · subst h; rw [HZ.out, HY.out]
            · exact hp.out j (by omega)
          case measure => simp [intOf]; omega
        · have HE := zH he
          have hcs : (¬ n1 = n2) ∨ (n1 = n2 ∧ ¬ d1 = d2) := by
            by_cases h : n1 = n2
            · exact .inr ⟨h, fun h2 => he (by rw [h, h2])⟩
            · exact .inl h
          clear he
          rcases hcs with hn | ⟨rfl, hn⟩
          all_goals
            go_wp2_with fail
            refine wp_region_quiet_all (fun w' => Below (World.heap wr).size (wr) w') (by kernel_rfl) (by kernel_rfl) (Below.refl _ _).drew ?_
            refine WQ.out ?_
            repeat (first | (refine WQ_no (by rfl) ?_; (simp only [Act.put, zzT, zzO, zzS])) | (refine WQ_yes (by rfl) ?_; apply Exists.intro; refine ⟨fun w1 hb1 => ?_, ?_⟩; (focus (((have k1 := (hb1.cell (p := ⟨ba, oa + k * 2, none⟩) hba).trans h1.out; have k2 := (hb1.cell (p := ⟨ba, oa + k * 2 + 1, none⟩) hba).trans h2.out; have k3 := (hb1.cell (p := ⟨bb, ob + k * 2, none⟩) hbb).trans h3.out; have k4 := (hb1.cell (p := ⟨bb, ob + k * 2 + 1, none⟩) hbb).trans h4.out); have hb1 := zH hb1; go_simp); (try (go_bits; try go_simp)); (try (rw [if_pos (by omega)]; try go_simp)); (first | done | (with_reducible rfl) | exact rfl))); (simp only [Act.put, zzT, zzO, zzS])))
            refine WQ_nil ?_
            intro w1 hb1
            go_wp2_with fail
            go_ret
            exact ⟨ret_bool (by have : ¬ zs = ys := fun h => HE.out (by rw [← HZ.out, ← HY.out, h]); simp [this]), bThen hB.out hb1⟩
      · have : k = zs.length := by omega
        subst this
        go_wp2_with fail
        go_ret
        exact ⟨ret_bool (by have : zs = ys := fg_ext HL.out hp.out; simp [this]), hB.out⟩
  · have HL := zH hl
    have h1 : ((zs.length : Int) != ys.length) = true := by simp; omega
    clear hl
    go_enter Tryz.func73, Tryz.ntmps73
    go_wp2_with fail
    go_ret
    exact ⟨ret_bool (by have : ¬ zs = ys := fun h => HL.out (by rw [h]); simp [this]), bSelf w⟩
end
section
open Go.RowKit

def CpOwn (p : Plt) (w : World) (e : Ending) (w' : World) : Prop :=
  ∃ a c, e = .returned (.agg (plC p a c)) ∧ p.pts.length ≤ c ∧ Own w' w.heap.size a (p.pts.length * 2) (fracs p.pts) ∧ Below w.heap.size w w'
/-- The first so many points with so many bottles. -/
def btP (k : Int) (l : List (Int × Int)) (i : Nat) : List (Int × Int) := btlQ k (l.take i) ++ l.drop i
theorem btP_fg {k : Int} {l : List (Int × Int)} {i j : Nat} (hi : i ≤ l.length) : fg (btP k l i) j = if j < i then ((fg l j).1 * k, (fg l j).2) else fg l j := by
  have ht : (btlQ k (l.take i)).length = i := by unfold btlQ; rw [List.length_map, List.length_take]; omega
  unfold btP fg
  rw [List.getD_eq_getElem?_getD, List.getD_eq_getElem?_getD]
  by_cases h : j < i
  · rw [if_pos h, List.getElem?_append_left (by omega)]
    unfold btlQ
    rw [List.getElem?_map, List.getElem?_take, if_pos h]
    cases hx : l[j]? with
    | none => have := List.getElem?_eq_none_iff.1 hx; omega
    | some x => rfl
  · rw [if_neg h, List.getElem?_append_right (by omega), List.getElem?_drop, ht, show i + (j - i) = j by omega]
theorem btP_zero {k : Int} {l : List (Int × Int)} : btP k l 0 = l := by unfold btP btlQ; simp
theorem btP_end {k : Int} {l : List (Int × Int)} : btP k l l.length = btlQ k l := by unfold btP; simp
theorem btl_len {k : Int} {l : List (Int × Int)} : (btlQ k l).length = l.length := by unfold btlQ; rw [List.length_map]
/-- The volume of one point set. -/
theorem bt_cur {k : Int} {l : List (Int × Int)} {i : Nat} {cur : Array Value} (hi : i < l.length) (hc : ∀ j, j < l.length * 2 → cur[j]? = some (fracs (btP k l i) j)) :
    ∀ j, j < l.length * 2 → (cur.setIfInBounds (i * 2) (.int .i64 ((fg l i).1 * k)))[j]? = some (fracs (btP k l (i + 1)) j) := by
  intro j hj
  have hsz : i * 2 < cur.size := by
    have := hc (i * 2) (by omega)
    rcases Nat.lt_or_ge (i * 2) cur.size with h | h
    · exact h
    · rw [Array.getElem?_eq_none h] at this; cases this
  by_cases h : j = i * 2
  · subst h
    rw [Array.getElem?_setIfInBounds_self_of_lt hsz]
    unfold fracs
    rw [if_pos (by omega), show i * 2 / 2 = i by omega, btP_fg (by omega), if_pos (by omega)]
  · rw [Array.getElem?_setIfInBounds_ne (fun e => h e.symm), hc j hj]
    unfold fracs
    rw [btP_fg (by omega), btP_fg (by omega)]
    by_cases hp : j % 2 = 0
    · rw [if_pos hp, if_pos hp]
      by_cases h2 : j / 2 < i
      · rw [if_pos h2, if_pos (by omega)]
      · rw [if_neg h2, if_neg (by omega)]
    · rw [if_neg hp, if_neg hp]
      by_cases h2 : j / 2 < i
      · rw [if_pos h2, if_pos (by omega)]
      · rw [if_neg h2]
        split
        · rfl
        · rfl
/-- The row of a plant's copy while its volumes are set. -/
def BtRow (k : Int) (l : List (Int × Int)) (g i : Nat) (W : World) : Prop := ∃ cur, Blk W g cur ∧ ∀ j, j < l.length * 2 → cur[j]? = some (fracs (btP k l i) j)
theorem BtRow.to {k : Int} {l : List (Int × Int)} {g i : Nat} {W W' : World} (h : BtRow k l g i W) (hb : Below W.heap.size W W') : BtRow k l g i W' := by
  obtain ⟨cur, h1, h2⟩ := h
  exact ⟨cur, h1.to hb, h2⟩
theorem BtRow.put1 {k : Int} {l : List (Int × Int)} {g i : Nat} {W : World} (h : BtRow k l g i W) (hi : i < l.length) : BtRow k l g (i + 1) (W.setCell ⟨g, i * 2, none⟩ (.int .i64 ((fg l i).1 * k))) := by
  obtain ⟨cur, h1, h2⟩ := h
  exact ⟨_, h1.set (i * 2) _, bt_cur hi h2⟩
theorem BtRow.vol {k : Int} {l : List (Int × Int)} {g i : Nat} {W : World} (h : BtRow k l g i W) (hi : i < l.length) : W.cell? ⟨g, i * 2, none⟩ = some (.int .i64 (fg l i).1) := by
  obtain ⟨cur, h1, h2⟩ := h
  rw [h1.2.1, h2 _ (by omega)]
  unfold fracs
  rw [if_pos (by omega), show i * 2 / 2 = i by omega, btP_fg (by omega), if_neg (by omega)]
theorem BtRow.frz1 {k : Int} {l : List (Int × Int)} {g i : Nat} {W : World} (h : BtRow k l g i W) : g < W.heap.size ∧ ∀ o, W.frozen? ⟨g, o, none⟩ = false := by
  obtain ⟨cur, h1, h2⟩ := h
  exact ⟨h1.1, h1.2.2⟩
theorem BtRow.beg {k : Int} {l : List (Int × Int)} {n0 : Nat} {a : Option Addr} {W : World} (h : Own W n0 a (l.length * 2) (fracs l)) (h1 : 1 ≤ l.length) : ∃ g, a = some ⟨g, 0, none⟩ ∧ n0 ≤ g ∧ BtRow k l g 0 W := by
  obtain ⟨g, cur, e, hn, hb, hc⟩ := h.at (by omega)
  exact ⟨g, e, hn, cur, hb, by rw [btP_zero]; exact hc⟩
theorem BtRow.read {k : Int} {l : List (Int × Int)} {g : Nat} {W : World} (h : BtRow k l g l.length W) : Reads W (some ⟨g, 0, none⟩) (l.length * 2) (fracs (btlQ k l)) := by
  obtain ⟨cur, h1, h2⟩ := h
  rw [btP_end] at h2
  exact h1.row h2

set_option maxHeartbeats 1600000 in
set_option maxRecDepth 100000 in
theorem rCopyPlant_own (p : Plt) (a : Option Addr) (cap : Nat) (w : World) (h1 : 1 ≤ p.pts.length) (hlen : p.pts.length ≤ 100000) (hr : Reads w a (p.pts.length * 2) (fracs p.pts)) :
    Calls Tryz.prog 25 #[.agg (plC p a cap)] w (CpOwn p w) := by
  have HR := zH hr
  obtain ⟨l, pump, on, off⟩ := p
  have HP : Hid (∀ e w', (∃ a c, e = .returned (.agg #[.slice a l.length c, .int .i64 pump, .int .i64 on, .int .i64 off]) ∧ l.length ≤ c ∧ Own w' w.heap.size a (l.length * 2) (fracs l) ∧ Below w.heap.size w w') → CpOwn ⟨l, pump, on, off⟩ w e w') := zH (fun e w' h => h)
  unfold plC
  dsimp only at HR hlen h1 ⊢
  obtain ⟨n, hn⟩ : ∃ n, l.length = n := ⟨_, rfl⟩
  have HN := zH hn
  rw [hn] at HR HP hlen h1 ⊢
  clear hr hn
  go_enter Tryz.func25, Tryz.ntmps25
  go_upto_region 1 with (fail)
  obtain ⟨w3, hw3⟩ : ∃ w3, (w.alloc (.cells #[.slice a n cap, .int .i64 pump, .int .i64 on, .int .i64 off] 44)).alloc (.cells #[.slice none 0 0, .int .i64 0, .int .i64 0, .int .i64 0] 44) = w3 := ⟨_, rfl⟩
  rw [hw3]
  have K0 : Hid (Blk w3 w.heap.size #[.slice a n cap, .int .i64 pump, .int .i64 on, .int .i64 off]) := by subst hw3; exact zH ((Blk.new _ _ _).alloc _)
  have K1 : Hid (Blk w3 (w.heap.size + 1) #[.slice none 0 0, .int .i64 0, .int .i64 0, .int .i64 0]) := by subst hw3; exact zH (Blk.newAt _ _ _ (by simp))
  have HB : Hid (Below w.heap.size w w3) := by subst hw3; exact zH (bAlloc (bAlloc (bSelf w) _) _)
  clear hw3
  have hs3 : w.heap.size + 1 < w3.heap.size := K1.out.1
  refine wp_region_treeT 10 (by kernel_rfl) (by kernel_rfl) (fun wd hwd => ?_)
  have T := zH hwd
  clear hwd
  refine WE_yes 1 rfl (by kernel_rfl) (fun _ _ _ _ _ h => h) (by rfl) ?_; apply Exists.intro; refine ⟨fun w1 hb1 => ?_, ?_⟩; (focus ((have hb1 := zH hb1; go_simp); (try (go_bits; try go_simp)); (try (rw [if_pos (by omega)]; try go_simp)); (first | done | (with_reducible rfl) | exact rfl)))
  simp only [Act.put, zzT, zzO, zzS]
  refine WE_yes 2 rfl (by kernel_rfl) (fun _ _ _ _ _ h => h) (by rfl) ?_; apply Exists.intro; refine ⟨fun w1 hb1 => ?_, ?_⟩; (focus (((obtain ⟨-, k0, -⟩ := K0.out.to (T.out.trans hb1)); have hb1 := zH hb1; go_simp); (try (go_bits; try go_simp)); (try (rw [if_pos (by omega)]; try go_simp)); (first | done | (with_reducible rfl) | exact rfl)))
  simp only [Act.put, zzT, zzO, zzS]
  refine WE_yes 4 rfl (by kernel_rfl) (fun _ _ _ _ _ h => h) (by rfl) ?_; apply Exists.intro; refine ⟨fun w1 hb1 => ?_, ?_⟩; (focus ((have hb1 := zH hb1; go_simp); (try (go_bits; try go_simp)); (try (rw [if_pos (by omega)]; try go_simp)); (first | done | (with_reducible rfl) | exact rfl)))
  simp only [Act.put, zzT, zzO, zzS]
  refine WE_yes 5 rfl (by kernel_rfl) (fun _ _ _ _ _ h => h) (by rfl) ?_; apply Exists.intro; refine ⟨fun w1 hb1 => ?_, ?_⟩; (focus (((obtain ⟨-, k0, -⟩ := K0.out.to (T.out.trans hb1)); have hb1 := zH hb1; go_simp); (try (go_bits; try go_simp)); (try (rw [if_pos (by omega)]; try go_simp)); (first | done | (with_reducible rfl) | exact rfl)))
  simp only [Act.put, zzT, zzO, zzS]
  refine WE_yes 6 rfl (by kernel_rfl) (fun _ _ _ _ _ h => h) (by rfl) ?_; apply Exists.intro; refine ⟨fun w1 hb1 => ?_, ?_⟩; (focus ((have hb1 := zH hb1; go_simp); (try (go_bits; try go_simp)); (try (rw [if_pos (by omega)]; try go_simp)); (first | done | (with_reducible rfl) | exact rfl)))
  simp only [Act.put, zzT, zzO, zzS]
  refine WE_yes 7 rfl (by kernel_rfl) (fun _ _ _ _ _ h => h) (by rfl) ?_; apply Exists.intro; refine ⟨fun w1 hb1 => ?_, ?_⟩; (focus (((obtain ⟨-, k0, -⟩ := K0.out.to (T.out.trans hb1)); have hb1 := zH hb1; go_simp); (try (go_bits; try go_simp)); (try (rw [if_pos (by omega)]; try go_simp)); (first | done | (with_reducible rfl) | exact rfl)))
  simp only [Act.put, zzT, zzO, zzS]
  refine WE_yes 8 rfl (by kernel_rfl) (fun _ _ _ _ _ h => h) (by rfl) ?_; apply Exists.intro; refine ⟨fun w1 hb1 => ?_, ?_⟩; (focus ((have hb1 := zH hb1; go_simp); (try (go_bits; try go_simp)); (try (rw [if_pos (by omega)]; try go_simp)); (first | done | (with_reducible rfl) | exact rfl)))
  simp only [Act.put, zzT, zzO, zzS]
  refine WE_yes 9 rfl (by kernel_rfl) (fun _ _ _ _ _ h => h) (by rfl) ?_; apply Exists.intro; refine ⟨fun w1 hb1 => ?_, ?_⟩; (focus (((obtain ⟨-, k0, -⟩ := K0.out.to (T.out.trans hb1)); have hb1 := zH hb1; go_simp); (try (go_bits; try go_simp)); (try (rw [if_pos (by omega)]; try go_simp)); (first | done | (with_reducible rfl) | exact rfl)))
  simp only [Act.put, zzT, zzO, zzS]
  refine WE_one 0 rfl (by decide) (by kernel_rfl) ?_
  unfold stepE
  go_wp2_with fail
  obtain ⟨u1, hu1⟩ : ∃ u1, wd.alloc (.cells #[] 188) = u1 := ⟨_, rfl⟩
  rw [hu1]
  have hb : Below wd.heap.size wd u1 := by subst hu1; exact bAlloc (bSelf _) _
  have hlit : u1.ownsRow wd.heap.size 188 2 (.slice (some ⟨wd.heap.size, 0, none⟩) 0 0) 0 [] := by subst hu1; exact World.ownsRow_lit wd #[] 0 (Nat.le_refl _) (by decide) rfl
  have HLIT := zH hlit
  have hbd := zH (hb.mono T.out.size)
  have HSX : Hid (w3.heap.size ≤ wd.heap.size) := zH T.out.size
  have HSD : Hid (w.heap.size + 1 < wd.heap.size) := zH (by have := T.out.size; omega)
  have HSU : Hid (wd.heap.size ≤ u1.heap.size) := zH hb.size
  replace T := zH (bThen T.out hb)
  refine ⟨hbd.out, ?_⟩
  clear hbd hb hu1 hlit
  obtain ⟨D, hD⟩ : ∃ D, wd.heap.size = D := ⟨_, rfl⟩
  have HSW : Hid (w3.heap.size ≤ D) := zH (by rw [← hD]; exact HSX.out)
  rw [hD] at HLIT HSD HSU ⊢
  clear hD
  replace HR := zH ((HR.out.to HB.out).to T.out)
  have HPO : Hid (∀ (u2 : World) (v : Value), u2.ownsRow D 188 2 v n (fcells l) → ∃ a' c', v = .slice a' n c' ∧ n ≤ c' ∧ Own u2 D a' (n * 2) (fracs l)) := zH (fun u2 v h => Own.of_row (f := fracs l) h (fun i hi => fcells_get l i (by rw [HN.out]; exact hi)))
  refine WE_one 3 rfl (by decide) (by kernel_rfl) ?_
  unfold stepE
  obtain ⟨ad, rfl⟩ : ∃ ad, a = some ad := by
    rcases HR.out with h | ⟨b, off, e, -⟩
    · omega
    · exact ⟨_, e⟩
  have HNW := zH (Reads.newsF (ms := l) (by rw [HN.out]; exact HR.out))
  have hcl : Hid ((fcells l).length = n * 2) := zH (by rw [fcells_len, HN.out])
  have hsu := HSU.out
  go_wp2_with (at_builtin; refine wpList_app D rtPt rfl (.tmp 3) (.tmp 5) rfl (.slice (some ⟨D, 0, none⟩) 0 0) 0 [] rfl HLIT.out ad n cap (fcells l) rfl hcl.out HNW.out (onesP _) (by unfold maxLen; omega) (by omega) hsu ?_; intro v' u2 hown' hgrow _ hwhere; have HO := zH hown'; have HG := zH hgrow; clear hown' hgrow hwhere)
  have hown : u2.ownsRow D 188 2 v' n (fcells l) := by have := HO.out; rwa [Nat.zero_add, List.nil_append] at this
  obtain ⟨a', c', rfl, hcp, hrd⟩ := HPO.out u2 v' hown
  have HCP := zH hcp
  have HRD := zH hrd
  have hbd : Hid (Below w3.heap.size u1 u2) := zH ((Below.refl _ _).grown HG.out T.out.size (fun k e => by cases e; exact HSW.out))
  replace T := zH (T.out.trans hbd.out)
  clear hown hcp hrd HO HG
  refine ⟨hbd.out, ?_⟩
  clear hbd
  replace K1 := zH (K1.out.to T.out)
  replace HB := zH (bThen HB.out T.out)
  refine WE_tail rfl (by kernel_rfl) ?_
  simp only [List.drop_succ_cons, List.drop_zero]
  obtain ⟨hk1, k1, f1⟩ := K1.out
  go_wp2_with fail
  clear k1 f1
  have F := (K1.out.st4 (.slice a' n c') (.int .i64 pump) (.int .i64 on) (.int .i64 off)).2.1
  have F0 := F 0; have F1 := F 1; have F2 := F 2; have F3 := F 3
  unfold st4 at F0 F1 F2 F3
  clear F
  have hfin := HP.out (.returned (.agg #[.slice a' n c', .int .i64 pump, .int .i64 on, .int .i64 off])) (st4 u2 (w.heap.size + 1) (.slice a' n c') (.int .i64 pump) (.int .i64 on) (.int .i64 off)) ⟨a', c', rfl, HCP.out, ((((HRD.out.other ⟨w.heap.size + 1, 0, none⟩ _ HSD.out).other ⟨w.heap.size + 1, 1, none⟩ _ HSD.out).other ⟨w.heap.size + 1, 2, none⟩ _ HSD.out).other ⟨w.heap.size + 1, 3, none⟩ _ HSD.out).le (by have := HSD.out; omega), HB.out.trans (below_st4 u2 (Nat.le_succ _) _ _ _ _)⟩
  refine bodyPost_ret (v := .agg #[.slice a' n c', .int .i64 pump, .int .i64 on, .int .i64 off]) ?_ rfl hfin
  simp [results, Tryz.results25, go_sem, F0, F1, F2, F3]
end
section
open Go.RowKit
attribute [local go_sem] Oper.semAt_some

def bokB (k : Int) (l : List (Int × Int)) : Bool := decide (capV (btlQ k l) ≤ 200)
def BtPost (p : Plt) (k : Int) (w : World) (e : Ending) (w' : World) : Prop :=
  ∃ a' c', e = .returned (.tuple #[.agg #[.slice a' p.pts.length c', .int .i64 p.pump, .int .i64 p.on, .int .i64 p.off], .bool (bokB k p.pts)]) ∧ p.pts.length ≤ c' ∧ Reads w' a' (p.pts.length * 2) (fracs (btlQ k p.pts)) ∧ Below w.heap.size w w' ∧ ∀ q, a' = some q → w.heap.size ≤ q.block
theorem btl_cap {k : Int} {l : List (Int × Int)} : capV (btlQ k l) = (fg l (l.length - 1)).1 * k := by unfold capV; rw [btl_len, btl_fg]
theorem vol_mul {l : List (Int × Int)} (h : PtsOk l) {k : Int} (hk : 1 ≤ k ∧ k ≤ 5) {i : Nat} (hi : i < l.length) : 0 ≤ (fg l i).1 * k ∧ (fg l i).1 * k ≤ 1000 := by
  have h1 := h.vol i hi
  refine ⟨Int.mul_nonneg h1.1 (by omega), ?_⟩
  have := Int.mul_le_mul h1.2 hk.2 (by omega) (by decide)
  omega
theorem BtRow.last1 {k : Int} {l : List (Int × Int)} {g : Nat} {W : World} (h : BtRow k l g l.length W) (h1 : 1 ≤ l.length) : W.cell? ⟨g, (l.length - 1) * 2, none⟩ = some (.int .i64 (capV (btlQ k l))) := by
  obtain ⟨cur, hb, hc⟩ := h
  rw [hb.2.1, hc _ (by omega)]
  unfold fracs
  rw [if_pos (by omega), show (l.length - 1) * 2 / 2 = l.length - 1 by omega, btP_fg (Nat.le_refl _), if_pos (by omega), btl_cap]
theorem BtRow.same1 {k : Int} {l : List (Int × Int)} {g i : Nat} {W : World} (h : BtRow k l g i W) {b j : Nat} (hb : b ≠ g) (v : Value) : BtRow k l g i (W.setCell ⟨b, j, none⟩ v) := by
  obtain ⟨cur, h1, h2⟩ := h
  exact ⟨cur, h1.other (p := ⟨b, j, none⟩) hb v, h2⟩

set_option maxHeartbeats 6400000 in
set_option maxRecDepth 100000 in
theorem bottles_any (p : Plt) (k : Int) (a : Option Addr) (cap : Nat) (w : World) (hp : PtsOk p.pts) (hk : 1 ≤ k ∧ k ≤ 5) (hr : Reads w a (p.pts.length * 2) (fracs p.pts)) :
    Calls Tryz.prog 150 #[.agg (plC p a cap), .int .i64 k] w (BtPost p k w) := by
  obtain ⟨ad, rfl⟩ : ∃ ad, a = some ad := by
    rcases hr with h | ⟨b, off, e, -⟩
    · have := hp.two; omega
    · exact ⟨_, e⟩
  have HCL := zH (fun W (hb : Below w.heap.size w W) => CloneP_any p.pts ad cap W (by have := hp.few; omega) (hr.to hb))
  obtain ⟨l, pump, on, off⟩ := p
  unfold BtPost plC
  dsimp only at HCL hp ⊢
  have hn2 := hp.two
  have hn8 := hp.few
  have HVM := zH (fun i hi => vol_mul hp hk (i := i) hi)
  have HBG := zH (fun n0 a' W (h : Own W n0 a' (l.length * 2) (fracs l)) => BtRow.beg (k := k) h (by omega))
  have HOR := zH (fun n₀ v W (h : World.ownsRow W n₀ 188 2 v l.length (fcells l)) => Own.of_row (f := fracs l) h (fun i hi => fcells_get l i hi))
  have HPT := zH (fun g i W (h : BtRow k l g i W) hi => h.put1 hi)
  have HVL := zH (fun g i W (h : BtRow k l g i W) hi => h.vol hi)
  have HLS := zH (fun g W (h : BtRow k l g l.length W) => h.last1 (by omega))
  have HRE := zH (fun g W (h : BtRow k l g l.length W) => h.read)
  have HBK : Hid (bokB k l = wthn (capV (btlQ k l)) 0 200) := zH (by
    unfold bokB wthn
    rw [decide_eq_true (show 0 ≤ capV (btlQ k l) by rw [btl_cap]; exact (HVM.out (l.length - 1) (by omega)).1)]
    rfl)
  have HCV : Hid (0 ≤ capV (btlQ k l) ∧ capV (btlQ k l) ≤ 1000) := zH (by rw [btl_cap]; exact HVM.out (l.length - 1) (by omega))
  obtain ⟨C, hC⟩ : ∃ C, capV (btlQ k l) = C := ⟨_, rfl⟩
  obtain ⟨bo, hbo⟩ : ∃ C, bokB k l = C := ⟨_, rfl⟩
  rw [hC] at HLS HBK HCV
  rw [hbo] at HBK ⊢
  have HIV := zH (fun W => by have := isVolume_any C W; rw [← HBK.out] at this; exact this)
  obtain ⟨n, hn⟩ : ∃ n, l.length = n := ⟨_, rfl⟩
  rw [hn] at HCL HVM HBG HOR HPT HVL HLS HRE hn2 hn8 ⊢
  obtain ⟨k1, k2⟩ := hk
  clear hr hp hC hbo hn HBK
  go_enter Tryz.func150, Tryz.ntmps150
  go_wp2_with fail
  obtain ⟨W, hW⟩ : ∃ W, (w.alloc (.cells #[.slice (some ad) n cap, .int .i64 pump, .int .i64 on, .int .i64 off] 44)).alloc (.cells #[.slice none 0 0, .int .i64 0, .int .i64 0, .int .i64 0] 44) = W := ⟨_, rfl⟩
  rw [hW]
  have K2 : Hid (Blk W w.heap.size #[.slice (some ad) n cap, .int .i64 pump, .int .i64 on, .int .i64 off]) := by subst hW; exact zH ((Blk.new _ _ _).alloc _)
  have K4 : Hid (Blk W (w.heap.size + 1) #[.slice none 0 0, .int .i64 0, .int .i64 0, .int .i64 0]) := by subst hW; exact zH (Blk.newAt _ _ _ (by simp))
  have HB : Hid (Below w.heap.size w W) := by subst hW; exact zH (bAlloc (bAlloc (bSelf w) _) _)
  clear hW
  refine (HCL.out _ HB.out).mono ?_
  rintro e w1 ⟨v, rfl, hown, hb⟩
  obtain ⟨a', c', rfl, hc', hown2⟩ := HOR.out _ _ _ hown
  obtain ⟨g, rfl, hg, hrow⟩ := HBG.out _ _ _ hown2
  have HG : Hid (w.heap.size + 1 < g) := zH (by have := K4.out.1; omega)
  have HRW := zH hrow
  replace K2 := zH (K2.out.to hb)
  replace K4 := zH (K4.out.to hb)
  replace HB := zH (bThen HB.out hb)
  clear hb hown hown2 hrow hg HCL HOR HBG
  obtain ⟨-, k2c, f2⟩ := K2.out
  go_wp2_with fail
  clear k2c f2
  obtain ⟨w2, hw2⟩ : ∃ u, w1.setCell ⟨w.heap.size, 0, none⟩ (.slice (some ⟨g, 0, none⟩) n c') = u := ⟨_, rfl⟩
  rw [hw2]
  have KA : Hid (Blk w2 w.heap.size #[.slice (some ⟨g, 0, none⟩) n c', .int .i64 pump, .int .i64 on, .int .i64 off]) := by rw [← hw2]; exact zH (K2.out.set 0 _)
  have KB : Hid (Blk w2 (w.heap.size + 1) #[.slice none 0 0, .int .i64 0, .int .i64 0, .int .i64 0]) := by rw [← hw2]; exact zH (K4.out.other (p := ⟨w.heap.size, 0, none⟩) (show w.heap.size ≠ w.heap.size + 1 by omega) _)
  have HRV : Hid (BtRow k l g 0 w2) := by rw [← hw2]; exact zH (HRW.out.same1 (by have := HG.out; omega) _)
  have HBV : Hid (Below w.heap.size w w2) := by rw [← hw2]; exact zH (HB.out.setCell (p := ⟨w.heap.size, 0, none⟩) (Nat.le_refl _) _)
  clear hw2 K2 K4 HRW HB
  go_loopw [6, 14] (fun _ s14 wr => ∃ i : Nat, s14 = .int .i64 i ∧ i ≤ n ∧ Hid (BtRow k l g i wr) ∧ Hid (Blk wr w.heap.size #[.slice (some ⟨g, 0, none⟩) n c', .int .i64 pump, .int .i64 on, .int .i64 off]) ∧ Hid (Blk wr (w.heap.size + 1) #[.slice none 0 0, .int .i64 0, .int .i64 0, .int .i64 0]) ∧ Hid (Below w.heap.size w wr)) (fun _ s14 _ => n - (intOf s14).toNat)
  case atStart => exact ⟨0, rfl, Nat.zero_le _, HRV, KA, KB, HBV⟩
  case round =>
    clear HRV KA KB HBV
    obtain ⟨i, rfl, hi, HRW, K2, K4, HB⟩ := hrel
    obtain ⟨-, k2c, -⟩ := K2.out
    by_cases hlt : i < n
    · obtain ⟨m0, m1⟩ := HVM.out i hlt
      have hv := HVL.out g i wr HRW.out hlt
      have HN := zH (HPT.out g i wr HRW.out hlt)
      obtain ⟨hgs, hfz⟩ := HRW.out.frz1
      obtain ⟨x, hx⟩ : ∃ x, (fg l i).1 = x := ⟨_, rfl⟩
      rw [hx] at m0 m1 hv HN
      have hfz' := hfz (i * 2)
      clear hx hfz
      go_wp2_with fail
      go_roundw
      case rel => exact ⟨i + 1, by go_num, by omega, HN, zH (K2.out.other (p := ⟨g, i * 2, none⟩) (show g ≠ w.heap.size by have := HG.out; omega) _), zH (K4.out.other (p := ⟨g, i * 2, none⟩) (show g ≠ w.heap.size + 1 by have := HG.out; omega) _), zH (HB.out.setCell (p := ⟨g, i * 2, none⟩) (show w.heap.size ≤ g by have := HG.out; omega) _)⟩
      case measure => simp [intOf]; omega
    · obtain rfl : i = n := by omega
      obtain ⟨wv, hwv⟩ : ∃ wv, wv = wr := ⟨_, rfl⟩
      subst hwv
      have hls := HLS.out g wv HRW.out
      have HL := zH hls
      obtain ⟨hgs, -⟩ := HRW.out.frz1
      obtain ⟨c0, c1⟩ := HCV.out
      have hi1 : (i : Int) - 1 = ((i - 1 : Nat) : Int) := by omega
      have hi2 : ((i - 1 : Nat) : Int) < (i : Int) := by omega
      have hi3 : i - 1 < i := by omega
      have HRD := zH (HRE.out g wv HRW.out)
      clear hls HVM HVL HPT HLS HRE HRW k2c
      go_wp2_with fail
      refine wp_region_quiet_tail 11 (fun w' => Below (World.heap wv).size (wv) w') (by kernel_rfl) (by kernel_rfl) (Below.refl _ _).drew ?_
      simp only [List.take_succ_cons, List.take_zero, List.drop_succ_cons, List.drop_zero]
      refine WQ.out ?_
      repeat (first | (refine WQ_no (by rfl) ?_; (simp only [Act.put, zzT, zzO, zzS])) | (refine WQ_yes (by rfl) ?_; apply Exists.intro; refine ⟨fun w1 hb1 => ?_, ?_⟩; (focus (((obtain ⟨-, k2c, -⟩ := K2.out.to hb1; have hl1 := (hb1.cell (p := ⟨g, (i - 1) * 2, none⟩) hgs).trans HL.out); have hb1 := zH hb1; go_simp); (try (go_bits; try go_simp)); (try (rw [if_pos (by omega)]; try go_simp)); (first | done | ((go_at_call 134; refine (HIV.out _).mono ?_; rintro e w' ⟨rfl, rfl⟩; exact ⟨rfl, hb1.out⟩)) | (with_reducible rfl) | exact rfl))); (simp only [Act.put, zzT, zzO, zzS])))
      refine WQ_nil ?_
      intro w1 hb1
      replace K4 := zH (K4.out.to hb1)
      replace HRD := zH (HRD.out.to hb1)
      replace HB := zH (bThen HB.out hb1)
      clear hb1
      obtain ⟨-, k4c, f4⟩ := K4.out
      go_wp2_with fail
      clear k4c f4
      have F := (K4.out.st4 (.slice (some ⟨g, 0, none⟩) i c') (.int .i64 pump) (.int .i64 on) (.int .i64 off)).2.1
      have F0 := F 0; have F1 := F 1; have F2 := F 2; have F3 := F 3
      unfold st4 at F0 F1 F2 F3
      clear F
      have HRF := zH (HRD.out.st4 (b := w.heap.size + 1) (fun q hq => by cases hq; have := HG.out; show g ≠ _; omega) (.slice (some ⟨g, 0, none⟩) i c') (.int .i64 pump) (.int .i64 on) (.int .i64 off))
      refine bodyPost_ret (v := .tuple #[.agg #[.slice (some ⟨g, 0, none⟩) i c', .int .i64 pump, .int .i64 on, .int .i64 off], .bool bo]) ?_ rfl ⟨_, _, rfl, hc', HRF.out, HB.out.trans (below_st4 w1 (Nat.le_succ _) _ _ _ _), fun q hq => by cases hq; have := HG.out; show w.heap.size ≤ g; omega⟩
      simp [results, Tryz.results150, go_sem, F0, F1, F2, F3]
end
end Go.Proofs.YtjfedpblkejmkaaGreat
