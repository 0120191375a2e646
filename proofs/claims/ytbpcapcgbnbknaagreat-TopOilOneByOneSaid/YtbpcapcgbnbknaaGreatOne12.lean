/-
  Texts of this claim, in their build order: W9 W10.
-/
import Derived.Test.YtbpcapcgbnbknaaGreatOne11
import Derived.Test.YtbpcapcgbnbknaaGreatOne0

namespace Go.Proofs.YtbpcapcgbnbknaaGreat
section
set_option maxRecDepth 100000
set_option maxHeartbeats 1600000
open Go.RowKit

theorem WideSub_any (z1 z2 : Int) (a1 a2 : Option Addr) (v1 v2 : Value) (w : World) (h1 : RW w a1 v1 z1) (h2 : RW w a2 v2 z2) (hl1 : (dg z1).length ≤ 400) (hl2 : (dg z2).length ≤ 400) :
    Calls Tryz.prog 126 #[v1, v2] w fun e w1 => WPost [(a1, z1), (a2, z2)] (z1 - z2) w e w1 := by
  have HL1 := zH h1.loc
  have HL2 := zH h2.loc
  have HNG := zH (fun W (hb : Below w.heap.size w W) => WideNeg_any z2 a2 v2 W (h2.to hb))
  have HAD := zH (fun W v4 (hb : Below w.heap.size w W) (hv : RW W a2 v4 (-z2)) => WideAdd_any z1 (-z2) a1 a2 v1 v4 W (h1.to hb) hv hl1 (by rw [dg_neg]; exact hl2))
  obtain ⟨c1, rfl, -, -⟩ := h1
  obtain ⟨c2, rfl, -, -⟩ := h2
  obtain ⟨s1, hs1⟩ : ∃ s, z1.sign = s := ⟨_, rfl⟩
  obtain ⟨s2, hs2⟩ : ∃ s, z2.sign = s := ⟨_, rfl⟩
  obtain ⟨n1, hn1⟩ : ∃ n, (dg z1).length = n := ⟨_, rfl⟩
  obtain ⟨n2, hn2⟩ : ∃ n, (dg z2).length = n := ⟨_, rfl⟩
  rw [hs1, hn1] at HAD
  rw [hs2, hn2] at HNG
  rw [hs1, hn1, hs2, hn2]
  have e : z1 - z2 = z1 + -z2 := Int.sub_eq_add_neg
  rw [e]
  clear hs1 hs2 hn1 hn2 hl1 hl2 e
  go_enter Tryz.func126, Tryz.ntmps126
  go_upto_region 1 with (fail)
  obtain ⟨w3, hw3⟩ : ∃ w3, ((w.alloc (.cells #[.int .i64 s1, .slice a1 n1 c1] 63)).alloc (.cells #[.int .i64 s2, .slice a2 n2 c2] 63)).alloc (.cells #[.int .i64 0, .slice none 0 0] 63) = w3 := ⟨_, rfl⟩
  rw [hw3]
  have K0 : Hid (Blk w3 w.heap.size #[.int .i64 s1, .slice a1 n1 c1]) := by subst hw3; exact zH (((Blk.new _ _ _).alloc _).alloc _)
  have K1 : Hid (Blk w3 (w.heap.size + 1) #[.int .i64 s2, .slice a2 n2 c2]) := by subst hw3; exact zH ((Blk.newAt _ _ _ (by simp)).alloc _)
  have K2 : Hid (Blk w3 (w.heap.size + 2) #[.int .i64 0, .slice none 0 0]) := by subst hw3; exact zH (Blk.newAt _ _ _ (by simp))
  have HB : Hid (Below w.heap.size w w3) := by subst hw3; exact zH (bAlloc (bAlloc (bAlloc (bSelf w) _) _) _)
  clear hw3
  refine wp_region_treeN (w.heap.size + 2) (by kernel_rfl) (fun wd hwd => ?_)
  have h32 : w.heap.size + 2 < w3.heap.size := K2.out.1
  have T := zH hwd
  clear hwd
  refine WTq 0 ?_; apply Exists.intro; refine ⟨fun w1 hb1 => ?_, ?_⟩; (focus (((obtain ⟨-, k0, -⟩ := (K0.out.to T.out).below hb1 (show w.heap.size < w.heap.size + 2 by omega); obtain ⟨-, k1, -⟩ := (K1.out.to T.out).below hb1 (show w.heap.size + 1 < w.heap.size + 2 by omega)); have hb1 := zH hb1; go_simp); (try (go_bits; try go_simp)); (try (rw [if_pos (by omega)]; try go_simp)); (first | done | (with_reducible rfl) | exact rfl)))
  simp only [Act.put, zzT, zzO, zzS]
  refine WTq 1 ?_; apply Exists.intro; refine ⟨fun w1 hb1 => ?_, ?_⟩; (focus (((obtain ⟨-, k0, -⟩ := (K0.out.to T.out).below hb1 (show w.heap.size < w.heap.size + 2 by omega); obtain ⟨-, k1, -⟩ := (K1.out.to T.out).below hb1 (show w.heap.size + 1 < w.heap.size + 2 by omega)); have hb1 := zH hb1; go_simp); (try (go_bits; try go_simp)); (try (rw [if_pos (by omega)]; try go_simp)); (first | done | (with_reducible rfl) | exact rfl)))
  simp only [Act.put, zzT, zzO, zzS]
  have hszd : w3.heap.size ≤ wd.heap.size := T.out.size
  refine WT_one 2 rfl (by kernel_rfl) ?_
  unfold stepT
  go_wp2_with fail
  refine (HNG.out _ (bThen HB.out T.out)).mono ?_
  rintro e w4 ⟨v4, rfl, hv4, hb⟩
  have HV4 := zH hv4
  have hbd := zH (hb.mono (show w.heap.size + 2 ≤ wd.heap.size by omega))
  replace T := zH (bThen T.out hb)
  clear hb hv4
  go_wp2_with fail
  refine ⟨hbd.out, ?_⟩
  clear hbd
  have hsz4 : w3.heap.size ≤ w4.heap.size := T.out.size
  refine WT_one 3 rfl (by kernel_rfl) ?_
  unfold stepT
  go_wp2_with fail
  refine (HAD.out _ v4 (bThen HB.out T.out) HV4.out).mono ?_
  rintro e w5 ⟨a3, v5, rfl, hv5, hb, hloc⟩
  have hbd := zH (hb.mono (show w.heap.size + 2 ≤ w4.heap.size by omega))
  replace T := zH (bThen T.out hb)
  have HV5 := zH hv5
  have HLC := zH hloc
  obtain ⟨c5, rfl, -, -⟩ := hv5
  clear hb hloc
  replace K2 := zH (K2.out.to T.out)
  have HB5 := zH (bThen HB.out T.out)
  have HP : Hid (∀ (w' : World) (e : Ending), w' = (w5.setCell ⟨w.heap.size + 2, 0, none⟩ (.int .i64 (z1 + -z2).sign)).setCell ⟨w.heap.size + 2, 1, none⟩ (.slice a3 (dg (z1 + -z2)).length c5) → e = .returned (.agg #[.int .i64 (z1 + -z2).sign, .slice a3 (dg (z1 + -z2)).length c5]) → WPost [(a1, z1), (a2, z2)] (z1 + -z2) w e w') := zH (fun w' e hw he => by
    subst hw
    refine ⟨a3, _, he, HV5.out.set2' (HLC.out _ (fun b hb => by omega) ?_) _ _, ?_, fun P hf hi => HLC.out P (fun b hb => hf b (by omega)) ?_⟩
    · intro i hi
      simp only [List.mem_cons, List.not_mem_nil, or_false] at hi
      rcases hi with rfl | rfl
      · exact fun hn p hp => by have := HL1.out hn p hp; omega
      · exact fun hn p hp => by have := HL2.out (by rw [← dg_neg]; exact hn) p hp; omega
    · exact (HB5.out.setCell (p := ⟨w.heap.size + 2, 0, none⟩) (by dsimp only; omega) _).setCell (p := ⟨w.heap.size + 2, 1, none⟩) (by dsimp only; omega) _
    · intro i hi'
      simp only [List.mem_cons, List.not_mem_nil, or_false] at hi'
      rcases hi' with rfl | rfl
      · exact hi (a1, z1) (by simp)
      · exact fun hn p hp => hi (a2, z2) (by simp) (by rw [← dg_neg]; exact hn) p hp)
  clear HV5 HLC
  obtain ⟨sg, hsg⟩ : ∃ s, (z1 + -z2).sign = s := ⟨_, rfl⟩
  obtain ⟨D, hD⟩ : ∃ n, (dg (z1 + -z2)).length = n := ⟨_, rfl⟩
  rw [hsg, hD] at HP ⊢
  clear hsg hD
  go_wp2_with fail
  refine ⟨hbd.out, ?_⟩
  clear hbd
  refine WT_one 4 rfl (by kernel_rfl) ?_
  unfold stepT
  obtain ⟨h2, k2, f2⟩ := K2.out
  go_wp2_with fail
  clear k2 f2
  refine ⟨((Below.refl _ _).setCell (p := ⟨w.heap.size + 2, 0, none⟩) (Nat.le_refl _) _).setCell (p := ⟨w.heap.size + 2, 1, none⟩) (Nat.le_refl _) _, ?_⟩
  refine WT_done (by kernel_rfl) ?_
  go_wp2_with fail
  have F := ((K2.out.set 0 (.int .i64 sg)).set 1 (.slice a3 D c5)).2.1
  have F0 := F 0; have F1 := F 1
  clear F
  refine bodyPost_ret (v := .agg #[.int .i64 sg, .slice a3 D c5]) ?_ rfl (HP.out _ _ rfl rfl)
  simp [results, Tryz.results126, go_sem, F0, F1]

theorem WideCmp_any (z1 z2 : Int) (a1 a2 : Option Addr) (v1 v2 : Value) (w : World) (h1 : RW w a1 v1 z1) (h2 : RW w a2 v2 z2) (hl1 : (dg z1).length ≤ 400) (hl2 : (dg z2).length ≤ 400) :
    Calls Tryz.prog 85 #[v1, v2] w fun e w' => e = .returned (.int .i64 (z1 - z2).sign) ∧ Below w.heap.size w w' := by
  have HSB := zH (fun W (hb : Below w.heap.size w W) => WideSub_any z1 z2 a1 a2 v1 v2 W (h1.to hb) (h2.to hb) hl1 hl2)
  obtain ⟨c1, rfl, -, -⟩ := h1
  obtain ⟨c2, rfl, -, -⟩ := h2
  obtain ⟨s1, hs1⟩ : ∃ s, z1.sign = s := ⟨_, rfl⟩
  obtain ⟨s2, hs2⟩ : ∃ s, z2.sign = s := ⟨_, rfl⟩
  obtain ⟨n1, hn1⟩ : ∃ n, (dg z1).length = n := ⟨_, rfl⟩
  obtain ⟨n2, hn2⟩ : ∃ n, (dg z2).length = n := ⟨_, rfl⟩
  rw [hs1, hn1, hs2, hn2] at HSB
  rw [hs1, hn1, hs2, hn2]
  clear hs1 hs2 hn1 hn2 hl1 hl2
  go_enter Tryz.func85, Tryz.ntmps85
  go_wp2_with fail
  refine (HSB.out _ (bAlloc (bAlloc (bSelf w) _) _)).mono ?_
  rintro e w5 ⟨a3, v5, rfl, hv5, hb, -⟩
  have HB := zH (bThen (bAlloc (bAlloc (bSelf w) _) _) hb)
  obtain ⟨c5, rfl, -, -⟩ := hv5
  clear hb
  obtain ⟨sg, hsg⟩ : ∃ s, (z1 - z2).sign = s := ⟨_, rfl⟩
  obtain ⟨D, hD⟩ : ∃ n, (dg (z1 - z2)).length = n := ⟨_, rfl⟩
  rw [hsg, hD]
  have hfd : ∀ (W : World), (Instr.field 63 (.agg #[.int .i64 sg, .slice a3 D c5]) 0).run Tryz.prog W = .ok (.int .i64 sg) W := fun _ => by kernel_rfl
  have HSG := zH hsg
  clear hsg hD
  go_wp2_with fail
  go_ret
  exact ⟨ret_int HSG.out.symm, HB.out⟩
end
section
open Go.RowKit

theorem gi_set (l : List Int) (i j : Nat) (v : Int) : gi (l.set i v) j = if i = j ∧ i < l.length then v else gi l j := by
  unfold gi
  rw [List.getD_eq_getElem?_getD, List.getD_eq_getElem?_getD, List.getElem?_set]
  by_cases h : i = j
  · subst h
    by_cases h2 : i < l.length
    · simp [h2]
    · simp [h2]
  · simp [h]
theorem val_set : ∀ (l : List Int) (i : Nat) (v : Int), i < l.length → val (l.set i v) = val l + 1000000000 ^ i * (v - gi l i)
  | [], i, v, h => by simp at h
  | d :: l, 0, v, _ => by
    show v + 1000000000 * val l = d + 1000000000 * val l + 1000000000 ^ 0 * (v - d)
    rw [Int.pow_zero]; omega
  | d :: l, i + 1, v, h => by
    have ih := val_set l i v (by simpa using h)
    show d + 1000000000 * val (l.set i v) = d + 1000000000 * val l + 1000000000 ^ (i + 1) * (v - gi l i)
    rw [ih, Int.mul_add, Int.pow_succ, Int.mul_comm (1000000000 ^ i) 1000000000, Int.mul_assoc, Int.add_assoc]
theorem Dig.set {l : List Int} (h : Dig l) (i : Nat) {v : Int} (h0 : 0 ≤ v) (h1 : v < 1000000000) : Dig (l.set i v) := fun d hd => by
  rcases List.mem_or_eq_of_mem_set hd with h2 | h2
  · exact h d h2
  · rw [h2]; exact ⟨h0, h1⟩
theorem digit_le {l : List Int} (h : Dig l) {i : Nat} (hi : i < l.length) : 1000000000 ^ i * gi l i ≤ val l := by
  rw [val_split l i hi]
  have h1 := val_nonneg (h.take i)
  have h2 : Dig (l.drop (i + 1)) := fun d hd => h d (List.mem_of_mem_drop hd)
  have h3 := Int.mul_nonneg (Int.le_of_lt (pow_pos' (i + 1))) (val_nonneg h2)
  omega
theorem mul_bd' {p q P Q : Int} (h1 : 0 ≤ p) (h2 : p < P) (h3 : 0 ≤ q) (h4 : q < Q) : p * q < P * Q := by
  have h5 : p * q ≤ p * Q := Int.mul_le_mul_of_nonneg_left (by omega) h1
  have h6 : p * Q < P * Q := Int.mul_lt_mul_of_pos_right h2 (by omega)
  omega

/-- One step of the inner loop. -/
theorem mul_step {os : List Int} {V : Int} {n : Nat} {c a b s d q : Int} (hn : n < os.length) (hv : val os + 1000000000 ^ n * c = V) (hs : s = gi os n + a * b + c) (hd : s = d + 1000000000 * q) :
    val (os.set n d) + 1000000000 ^ (n + 1) * q = V + 1000000000 ^ n * (a * b) := by
  rw [val_set os n d hn, ← hv, Int.pow_succ, Int.mul_assoc]
  have e : (1000000000 : Int) ^ n * (d - gi os n) + 1000000000 ^ n * (1000000000 * q) = 1000000000 ^ n * c + 1000000000 ^ n * (a * b) := by
    rw [← Int.mul_add, ← Int.mul_add]
    congr 1
    omega
  omega
/-- The bound of a digit's sum, a product and a carry. -/
theorem mul_dig {o a b c : Int} (o0 : 0 ≤ o) (o1 : o < 1000000000) (a0 : 0 ≤ a) (a1 : a < 1000000000) (b0 : 0 ≤ b) (b1 : b < 1000000000) (c0 : 0 ≤ c) (c1 : c < 1000000000) :
    0 ≤ a * b ∧ a * b ≤ 999999998000000001 ∧ 0 ≤ o + a * b + c ∧ o + a * b + c < 1000000000000000000 := by
  have h1 := Int.mul_nonneg a0 b0
  have h2 : a * b ≤ 999999999 * b := Int.mul_le_mul_of_nonneg_right (by omega) b0
  have h3 : 999999999 * b ≤ 999999999 * 999999999 := Int.mul_le_mul_of_nonneg_left (by omega) (by decide)
  omega
/-- The end of a row. -/
theorem mul_end {os : List Int} (hd : Dig os) {n : Nat} {c V : Int} (hn : n < os.length) (hv : val os + 1000000000 ^ n * c = V) (hV : V < 1000000000 ^ (n + 1)) :
    gi os n + c < 1000000000 ∧ val (os.set n (gi os n + c)) = V := by
  constructor
  · have h1 := digit_le hd hn
    have h2 : (1000000000 : Int) ^ n * (gi os n + c) < 1000000000 ^ n * 1000000000 := by rw [Int.mul_add, ← Int.pow_succ]; omega
    exact Int.lt_of_mul_lt_mul_left h2 (Int.le_of_lt (pow_pos' n))
  · rw [val_set os n _ hn, ← hv]
    congr 2
    omega

/-- A block of numbers. -/
def OutB (W : World) (b : Nat) (os : List Int) : Prop :=
  b < W.heap.size ∧ (∀ o, o < os.length → W.cell? ⟨b, o, none⟩ = some (.int .i64 (gi os o))) ∧ ∀ o, W.frozen? ⟨b, o, none⟩ = false
theorem OutB.to {W W' : World} {b : Nat} {os : List Int} (h : OutB W b os) (hb : Below W.heap.size W W') : OutB W' b os :=
  ⟨Nat.lt_of_lt_of_le h.1 hb.size, fun o ho => (hb.cell (p := ⟨b, o, none⟩) h.1).trans (h.2.1 o ho), fun o => (hb.frozen (p := ⟨b, o, none⟩) h.1).trans (h.2.2 o)⟩
theorem OutB.set {W : World} {b : Nat} {os : List Int} (h : OutB W b os) {i : Nat} (hi : i < os.length) (v : Int) : OutB (W.setCell ⟨b, i, none⟩ (.int .i64 v)) b (os.set i v) := by
  refine ⟨by simpa [World.setCell] using h.1, fun o ho => ?_, fun o => by rw [World.frozen?_setCell]; exact h.2.2 o⟩
  rw [List.length_set] at ho
  rw [gi_set]
  by_cases hio : i = o
  · subst hio
    rw [if_pos ⟨rfl, hi⟩]
    exact World.cell?_setCell_same _ _ _ (h.2.1 i hi)
  · rw [if_neg (fun h => hio h.1), World.cell?_setCell_other _ _ _ _ (by intro e; cases e; exact hio rfl)]
    exact h.2.1 o ho
theorem OutB.reads {W : World} {b : Nat} {os : List Int} (h : OutB W b os) : Reads W (some ⟨b, 0, none⟩) os.length (ints os) :=
  .inr ⟨b, 0, rfl, h.1, fun i hi => by rw [Nat.zero_add]; exact h.2.1 i hi⟩
theorem OutB.new (W : World) (L : Nat) : OutB (W.alloc (.cells (madeCells #[.int .i64 0] L) 3)) W.heap.size (List.replicate L 0) := by
  have h := Blk.new W (madeCells #[.int .i64 0] L) 3
  refine ⟨h.1, fun o ho => ?_, h.2.2⟩
  rw [List.length_replicate] at ho
  rw [h.2.1 o, gi_rep]
  unfold madeCells
  simp [ho, Nat.mod_one]
theorem val_rep : ∀ n, val (List.replicate n 0) = 0
  | 0 => rfl
  | n + 1 => by rw [List.replicate_succ]; show (0 : Int) + 1000000000 * val (List.replicate n 0) = 0; rw [val_rep n]; rfl
theorem Dig.rep (n : Nat) : Dig (List.replicate n 0) := fun d hd => by rw [(List.mem_replicate.1 hd).2]; omega

/-- make([]int, L). -/
theorem make_ints (L : Nat) (hL : L ≤ 100000) (W : World) : (Instr.makeSlice 28 (.int .i64 L) (.int .i64 L)).run Tryz.prog W = .ok (.slice (some ⟨W.heap.size, 0, none⟩) L L) (W.alloc (.cells (madeCells #[.int .i64 0] L) 3)) := by
  obtain ⟨i, h1, h2, h3, h4⟩ := info_parts (show (Tryz.prog.info? 3).map (fun i => (i.zero, i.size, i.bytes)) = some (some (.int .i64 0), 1, 8) by kernel_rfl)
  have h := run_makeSlice (P := Tryz.prog) W 28 3 i (.int .i64 0) (by kernel_rfl) h1 h2 .i64 .i64 L L (by omega) (Int.le_refl _) (by rw [h3, Int.toNat_natCast]; omega) (by rw [h4]; omega) (by omega)
  rw [h3, Int.toNat_natCast, Nat.mul_one] at h
  exact h

/-- What the loops of WideMul keep. -/
structure MulI (w W : World) (c0 c1 : Array Value) (BO : Nat) (os : List Int) : Prop where
  k0 : Blk W w.heap.size c0
  k1 : Blk W (w.heap.size + 1) c1
  k2 : Blk W (w.heap.size + 2) #[.int .i64 0, .slice none 0 0]
  out : OutB W BO os
  below : Below w.heap.size w W
theorem MulI.to {w W W' : World} {c0 c1 : Array Value} {BO : Nat} {os : List Int} (h : MulI w W c0 c1 BO os) (hb : Below W.heap.size W W') : MulI w W' c0 c1 BO os :=
  ⟨h.k0.to hb, h.k1.to hb, h.k2.to hb, h.out.to hb, bThen h.below hb⟩
theorem MulI.set {w W : World} {c0 c1 : Array Value} {BO : Nat} {os : List Int} (h : MulI w W c0 c1 BO os) (hB : w.heap.size + 3 ≤ BO) {i : Nat} (hi : i < os.length) (v : Int) : MulI w (W.setCell ⟨BO, i, none⟩ (.int .i64 v)) c0 c1 BO (os.set i v) :=
  ⟨h.k0.other (p := ⟨BO, i, none⟩) (by dsimp only; omega) _, h.k1.other (p := ⟨BO, i, none⟩) (by dsimp only; omega) _, h.k2.other (p := ⟨BO, i, none⟩) (by dsimp only; omega) _, h.out.set hi v, h.below.setCell (p := ⟨BO, i, none⟩) (by dsimp only; omega) _⟩
end
end Go.Proofs.YtbpcapcgbnbknaaGreat
