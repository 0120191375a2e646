/-
  Texts of this claim, in their build order: W9 W10 W11.
-/
import Derived.Test.YtjfedpblkejmkaaGreatBot9
import Derived.Test.YtjfedpblkejmkaaGreatBot0

namespace Go.Proofs.YtjfedpblkejmkaaGreat
section
set_option maxRecDepth 100000
set_option maxHeartbeats 1600000
open Go.RowKit

theorem WideSub_any (z1 z2 : Int) (a1 a2 : Option Addr) (v1 v2 : Value) (w : World) (h1 : RW w a1 v1 z1) (h2 : RW w a2 v2 z2) (hl1 : (dg z1).length ≤ 400) (hl2 : (dg z2).length ≤ 400) :
    Calls Tryz.prog 177 #[v1, v2] w fun e w1 => WPost [(a1, z1), (a2, z2)] (z1 - z2) w e w1 := by
  have HL1 := zH h1.loc
  have HL2 := zH h2.loc
  have HNG := zH (fun W (hb : Below w.heap.size w W) => WideNeg_any z2 a2 v2 W (h2.to hb))
  have HAD := zH (fun W v4 (hb : Below w.heap.size w W) (hv : RW W a2 v4 (-z2)) => WideAdd_any z1 (-z2) a1 a2 v1 v4 W (h1.to hb) hv hl1 (by rw [dg_neg]; exact hl2))
  obtain ⟨c1, rfl, -, -⟩ := h1
  obtain ⟨c2, rfl, -, -⟩ := h2
  obtain ⟨s1, hs1⟩ : ∃ s, z1.sign = s := ⟨_, rfl⟩
  obtain ⟨s2, hs2⟩ : ∃ s, z2.sign = s := ⟨_, rfl⟩
  obtain ⟨n1, hn1⟩ : ∃ n, (dg z1).length = n := ⟨_, rfl⟩
  obtain ⟨n2, hn2⟩ : ∃ n, (dg z2).length = n := ⟨_, rfl⟩
  rw [hs1, hn1] at HAD
  rw [hs2, hn2] at HNG
  rw [hs1, hn1, hs2, hn2]
  have e : z1 - z2 = z1 + -z2 := Int.sub_eq_add_neg
  rw [e]
  clear hs1 hs2 hn1 hn2 hl1 hl2 e
  go_enter Tryz.func177, Tryz.ntmps177
  go_upto_region 1 with (fail)
  obtain ⟨w3, hw3⟩ : ∃ w3, ((w.alloc (.cells #[.int .i64 s1, .slice a1 n1 c1] 110)).alloc (.cells #[.int .i64 s2, .slice a2 n2 c2] 110)).alloc (.cells #[.int .i64 0, .slice none 0 0] 110) = w3 := ⟨_, rfl⟩
  rw [hw3]
  have K0 : Hid (Blk w3 w.heap.size #[.int .i64 s1, .slice a1 n1 c1]) := by subst hw3; exact zH (((Blk.new _ _ _).alloc _).alloc _)
  have K1 : Hid (Blk w3 (w.heap.size + 1) #[.int .i64 s2, .slice a2 n2 c2]) := by subst hw3; exact zH ((Blk.newAt _ _ _ (by simp)).alloc _)
  have K2 : Hid (Blk w3 (w.heap.size + 2) #[.int .i64 0, .slice none 0 0]) := by subst hw3; exact zH (Blk.newAt _ _ _ (by simp))
  have HB : Hid (Below w.heap.size w w3) := by subst hw3; exact zH (bAlloc (bAlloc (bAlloc (bSelf w) _) _) _)
  clear hw3
  refine wp_region_treeN (w.heap.size + 2) (by kernel_rfl) (fun wd hwd => ?_)
  have h32 : w.heap.size + 2 < w3.heap.size := K2.out.1
  have T := zH hwd
  clear hwd
  refine WTq 0 ?_; apply Exists.intro; refine ⟨fun w1 hb1 => ?_, ?_⟩; (focus (((obtain ⟨-, k0, -⟩ := (K0.out.to T.out).below hb1 (show w.heap.size < w.heap.size + 2 by omega); obtain ⟨-, k1, -⟩ := (K1.out.to T.out).below hb1 (show w.heap.size + 1 < w.heap.size + 2 by omega)); have hb1 := zH hb1; go_simp); (try (go_bits; try go_simp)); (try (rw [if_pos (by omega)]; try go_simp)); (first | done | (with_reducible rfl) | exact rfl)))
  simp only [Act.put, zzT, zzO, zzS]
  refine WTq 1 ?_; apply Exists.intro; refine ⟨fun w1 hb1 => ?_, ?_⟩; (focus (((obtain ⟨-, k0, -⟩ := (K0.out.to T.out).below hb1 (show w.heap.size < w.heap.size + 2 by omega); obtain ⟨-, k1, -⟩ := (K1.out.to T.out).below hb1 (show w.heap.size + 1 < w.heap.size + 2 by omega)); have hb1 := zH hb1; go_simp); (try (go_bits; try go_simp)); (try (rw [if_pos (by omega)]; try go_simp)); (first | done | (with_reducible rfl) | exact rfl)))
  simp only [Act.put, zzT, zzO, zzS]
  have hszd : w3.heap.size ≤ wd.heap.size := T.out.size
  refine WT_one 2 rfl (by kernel_rfl) ?_
  unfold stepT
  go_wp2_with fail
  refine (HNG.out _ (bThen HB.out T.out)).mono ?_
  rintro e w4 ⟨v4, rfl, hv4, hb⟩
  have HV4 := zH hv4
  have hbd := zH (hb.mono (show w.heap.size + 2 ≤ wd.heap.size by omega))
  replace T := zH (bThen T.out hb)
  clear hb hv4
  go_wp2_with fail
  refine ⟨hbd.out, ?_⟩
  clear hbd
  have hsz4 : w3.heap.size ≤ w4.heap.size := T.out.size
  refine WT_one 3 rfl (by kernel_rfl) ?_
  unfold stepT
  go_wp2_with fail
  refine (HAD.out _ v4 (bThen HB.out T.out) HV4.out).mono ?_
  rintro e w5 ⟨a3, v5, rfl, hv5, hb, hloc⟩
  have hbd := zH (hb.mono (show w.heap.size + 2 ≤ w4.heap.size by omega))
  replace T := zH (bThen T.out hb)
  have HV5 := zH hv5
  have HLC := zH hloc
  obtain ⟨c5, rfl, -, -⟩ := hv5
  clear hb hloc
  replace K2 := zH (K2.out.to T.out)
  have HB5 := zH (bThen HB.out T.out)
  have HP : Hid (∀ (w' : World) (e : Ending), w' = (w5.setCell ⟨w.heap.size + 2, 0, none⟩ (.int .i64 (z1 + -z2).sign)).setCell ⟨w.heap.size + 2, 1, none⟩ (.slice a3 (dg (z1 + -z2)).length c5) → e = .returned (.agg #[.int .i64 (z1 + -z2).sign, .slice a3 (dg (z1 + -z2)).length c5]) → WPost [(a1, z1), (a2, z2)] (z1 + -z2) w e w') := zH (fun w' e hw he => by
    subst hw
    refine ⟨a3, _, he, HV5.out.set2' (HLC.out _ (fun b hb => by omega) ?_) _ _, ?_, fun P hf hi => HLC.out P (fun b hb => hf b (by omega)) ?_⟩
    · intro i hi
      simp only [List.mem_cons, List.not_mem_nil, or_false] at hi
      rcases hi with rfl | rfl
      · exact fun hn p hp => by have := HL1.out hn p hp; omega
      · exact fun hn p hp => by have := HL2.out (by rw [← dg_neg]; exact hn) p hp; omega
    · exact (HB5.out.setCell (p := ⟨w.heap.size + 2, 0, none⟩) (by dsimp only; omega) _).setCell (p := ⟨w.heap.size + 2, 1, none⟩) (by dsimp only; omega) _
    · intro i hi'
      simp only [List.mem_cons, List.not_mem_nil, or_false] at hi'
      rcases hi' with rfl | rfl
      · exact hi (a1, z1) (by simp)
      · exact fun hn p hp => hi (a2, z2) (by simp) (by rw [← dg_neg]; exact hn) p hp)
  clear HV5 HLC
  obtain ⟨sg, hsg⟩ : ∃ s, (z1 + -z2).sign = s := ⟨_, rfl⟩
  obtain ⟨D, hD⟩ : ∃ n, (dg (z1 + -z2)).length = n := ⟨_, rfl⟩
  rw [hsg, hD] at HP ⊢
  clear hsg hD
  go_wp2_with fail
  refine ⟨hbd.out, ?_⟩
  clear hbd
  refine WT_one 4 rfl (by kernel_rfl) ?_
  unfold stepT
  obtain ⟨h2, k2, f2⟩ := K2.out
  go_wp2_with fail
  clear k2 f2
  refine ⟨((Below.refl _ _).setCell (p := ⟨w.heap.size + 2, 0, none⟩) (Nat.le_refl _) _).setCell (p := ⟨w.heap.size + 2, 1, none⟩) (Nat.le_refl _) _, ?_⟩
  refine WT_done (by kernel_rfl) ?_
  go_wp2_with fail
  have F := ((K2.out.set 0 (.int .i64 sg)).set 1 (.slice a3 D c5)).2.1
  have F0 := F 0; have F1 := F 1
  clear F
  refine bodyPost_ret (v := .agg #[.int .i64 sg, .slice a3 D c5]) ?_ rfl (HP.out _ _ rfl rfl)
  simp [results, Tryz.results177, go_sem, F0, F1]

theorem WideCmp_any (z1 z2 : Int) (a1 a2 : Option Addr) (v1 v2 : Value) (w : World) (h1 : RW w a1 v1 z1) (h2 : RW w a2 v2 z2) (hl1 : (dg z1).length ≤ 400) (hl2 : (dg z2).length ≤ 400) :
    Calls Tryz.prog 155 #[v1, v2] w fun e w' => e = .returned (.int .i64 (z1 - z2).sign) ∧ Below w.heap.size w w' := by
  have HSB := zH (fun W (hb : Below w.heap.size w W) => WideSub_any z1 z2 a1 a2 v1 v2 W (h1.to hb) (h2.to hb) hl1 hl2)
  obtain ⟨c1, rfl, -, -⟩ := h1
  obtain ⟨c2, rfl, -, -⟩ := h2
  obtain ⟨s1, hs1⟩ : ∃ s, z1.sign = s := ⟨_, rfl⟩
  obtain ⟨s2, hs2⟩ : ∃ s, z2.sign = s := ⟨_, rfl⟩
  obtain ⟨n1, hn1⟩ : ∃ n, (dg z1).length = n := ⟨_, rfl⟩
  obtain ⟨n2, hn2⟩ : ∃ n, (dg z2).length = n := ⟨_, rfl⟩
  rw [hs1, hn1, hs2, hn2] at HSB
  rw [hs1, hn1, hs2, hn2]
  clear hs1 hs2 hn1 hn2 hl1 hl2
  go_enter Tryz.func155, Tryz.ntmps155
  go_wp2_with fail
  refine (HSB.out _ (bAlloc (bAlloc (bSelf w) _) _)).mono ?_
  rintro e w5 ⟨a3, v5, rfl, hv5, hb, -⟩
  have HB := zH (bThen (bAlloc (bAlloc (bSelf w) _) _) hb)
  obtain ⟨c5, rfl, -, -⟩ := hv5
  clear hb
  obtain ⟨sg, hsg⟩ : ∃ s, (z1 - z2).sign = s := ⟨_, rfl⟩
  obtain ⟨D, hD⟩ : ∃ n, (dg (z1 - z2)).length = n := ⟨_, rfl⟩
  rw [hsg, hD]
  have hfd : ∀ (W : World), (Instr.field 110 (.agg #[.int .i64 sg, .slice a3 D c5]) 0).run Tryz.prog W = .ok (.int .i64 sg) W := fun _ => by kernel_rfl
  have HSG := zH hsg
  clear hsg hD
  go_wp2_with fail
  go_ret
  exact ⟨ret_int HSG.out.symm, HB.out⟩
end
section
open Go.RowKit

theorem gi_set (l : List Int) (i j : Nat) (v : Int) : gi (l.set i v) j = if i = j ∧ i < l.length then v else gi l j := by
  unfold gi
  rw [List.getD_eq_getElem?_getD, List.getD_eq_getElem?_getD, List.getElem?_set]
  by_cases h : i = j
  · subst h
    by_cases h2 : i < l.length
    · simp [h2]
    · simp [h2]
  · simp [h]
theorem val_set : ∀ (l : List Int) (i : Nat) (v : Int), i < l.length → val (l.set i v) = val l + 1000000000 ^ i * (v - gi l i)
  | [], i, v, h => by simp at h
  | d :: l, 0, v, _ => by
    show v + 1000000000 * val l = d + 1000000000 * val l + 1000000000 ^ 0 * (v - d)
    rw [Int.pow_zero]; omega
  | d :: l, i + 1, v, h => by
    have ih := val_set l i v (by simpa using h)
    show d + 1000000000 * val (l.set i v) = d + 1000000000 * val l + 1000000000 ^ (i + 1) * (v - gi l i)
    rw [ih, Int.mul_add, Int.pow_succ, Int.mul_comm (1000000000 ^ i) 1000000000, Int.mul_assoc, Int.add_assoc]
theorem Dig.set {l : List Int} (h : Dig l) (i : Nat) {v : Int} (h0 : 0 ≤ v) (h1 : v < 1000000000) : Dig (l.set i v) := fun d hd => by
  rcases List.mem_or_eq_of_mem_set hd with h2 | h2
  · exact h d h2
  · rw [h2]; exact ⟨h0, h1⟩
theorem digit_le {l : List Int} (h : Dig l) {i : Nat} (hi : i < l.length) : 1000000000 ^ i * gi l i ≤ val l := by
  rw [val_split l i hi]
  have h1 := val_nonneg (h.take i)
  have h2 : Dig (l.drop (i + 1)) := fun d hd => h d (List.mem_of_mem_drop hd)
  have h3 := Int.mul_nonneg (Int.le_of_lt (pow_pos' (i + 1))) (val_nonneg h2)
  omega
theorem mul_bd' {p q P Q : Int} (h1 : 0 ≤ p) (h2 : p < P) (h3 : 0 ≤ q) (h4 : q < Q) : p * q < P * Q := by
  have h5 : p * q ≤ p * Q := Int.mul_le_mul_of_nonneg_left (by omega) h1
  have h6 : p * Q < P * Q := Int.mul_lt_mul_of_pos_right h2 (by omega)
  omega

/-- One step of the inner loop. -/
theorem mul_step {os : List Int} {V : Int} {n : Nat} {c a b s d q : Int} (hn : n < os.length) (hv : val os + 1000000000 ^ n * c = V) (hs : s = gi os n + a * b + c) (hd : s = d + 1000000000 * q) :
    val (os.set n d) + 1000000000 ^ (n + 1) * q = V + 1000000000 ^ n * (a * b) := by
  rw [val_set os n d hn, ← hv, Int.pow_succ, Int.mul_assoc]
  have e : (1000000000 : Int) ^ n * (d - gi os n) + 1000000000 ^ n * (1000000000 * q) = 1000000000 ^ n * c + 1000000000 ^ n * (a * b) := by
    rw [← Int.mul_add, ← Int.mul_add]
    congr 1
    omega
  omega
/-- The bound of a digit's sum, a product and a carry. -/
theorem mul_dig {o a b c : Int} (o0 : 0 ≤ o) (o1 : o < 1000000000) (a0 : 0 ≤ a) (a1 : a < 1000000000) (b0 : 0 ≤ b) (b1 : b < 1000000000) (c0 : 0 ≤ c) (c1 : c < 1000000000) :
    0 ≤ a * b ∧ a * b ≤ 999999998000000001 ∧ 0 ≤ o + a * b + c ∧ o + a * b + c < 1000000000000000000 := by
  have h1 := Int.mul_nonneg a0 b0
  have h2 : a * b ≤ 999999999 * b := Int.mul_le_mul_of_nonneg_right (by omega) b0
  have h3 : 999999999 * b ≤ 999999999 * 999999999 := Int.mul_le_mul_of_nonneg_left (by omega) (by decide)
  omega
/-- The end of a row. -/
theorem mul_end {os : List Int} (hd : Dig os) {n : Nat} {c V : Int} (hn : n < os.length) (hv : val os + 1000000000 ^ n * c = V) (hV : V < 1000000000 ^ (n + 1)) :
    gi os n + c < 1000000000 ∧ val (os.set n (gi os n + c)) = V := by
  constructor
  · have h1 := digit_le hd hn
    have h2 : (1000000000 : Int) ^ n * (gi os n + c) < 1000000000 ^ n * 1000000000 := by rw [Int.mul_add, ← Int.pow_succ]; omega
    exact Int.lt_of_mul_lt_mul_left h2 (Int.le_of_lt (pow_pos' n))
  · rw [val_set os n _ hn, ← hv]
    congr 2
    omega

/-- A block of numbers. -/
def OutB (W : World) (b : Nat) (os : List Int) : Prop :=
  b < W.heap.size ∧ (∀ o, o < os.length → W.cell? ⟨b, o, none⟩ = some (.int .i64 (gi os o))) ∧ ∀ o, W.frozen? ⟨b, o, none⟩ = false
theorem OutB.to {W W' : World} {b : Nat} {os : List Int} (h : OutB W b os) (hb : Below W.heap.size W W') : OutB W' b os :=
  ⟨Nat.lt_of_lt_of_le h.1 hb.size, fun o ho => (hb.cell (p := ⟨b, o, none⟩) h.1).trans (h.2.1 o ho), fun o => (hb.frozen (p := ⟨b, o, none⟩) h.1).trans (h.2.2 o)⟩
theorem OutB.set {W : World} {b : Nat} {os : List Int} (h : OutB W b os) {i : Nat} (hi : i < os.length) (v : Int) : OutB (W.setCell ⟨b, i, none⟩ (.int .i64 v)) b (os.set i v) := by
  refine ⟨by simpa [World.setCell] using h.1, fun o ho => ?_, fun o => by rw [World.frozen?_setCell]; exact h.2.2 o⟩
  rw [List.length_set] at ho
  rw [gi_set]
  by_cases hio : i = o
  · subst hio
    rw [if_pos ⟨rfl, hi⟩]
    exact World.cell?_setCell_same _ _ _ (h.2.1 i hi)
  · rw [if_neg (fun h => hio h.1), World.cell?_setCell_other _ _ _ _ (by intro e; cases e; exact hio rfl)]
    exact h.2.1 o ho
theorem OutB.reads {W : World} {b : Nat} {os : List Int} (h : OutB W b os) : Reads W (some ⟨b, 0, none⟩) os.length (ints os) :=
  .inr ⟨b, 0, rfl, h.1, fun i hi => by rw [Nat.zero_add]; exact h.2.1 i hi⟩
theorem OutB.new (W : World) (L : Nat) : OutB (W.alloc (.cells (madeCells #[.int .i64 0] L) 3)) W.heap.size (List.replicate L 0) := by
  have h := Blk.new W (madeCells #[.int .i64 0] L) 3
  refine ⟨h.1, fun o ho => ?_, h.2.2⟩
  rw [List.length_replicate] at ho
  rw [h.2.1 o, gi_rep]
  unfold madeCells
  simp [ho, Nat.mod_one]
theorem val_rep : ∀ n, val (List.replicate n 0) = 0
  | 0 => rfl
  | n + 1 => by rw [List.replicate_succ]; show (0 : Int) + 1000000000 * val (List.replicate n 0) = 0; rw [val_rep n]; rfl
theorem Dig.rep (n : Nat) : Dig (List.replicate n 0) := fun d hd => by rw [(List.mem_replicate.1 hd).2]; omega

/-- make([]int, L). -/
theorem make_ints (L : Nat) (hL : L ≤ 100000) (W : World) : (Instr.makeSlice 47 (.int .i64 L) (.int .i64 L)).run Tryz.prog W = .ok (.slice (some ⟨W.heap.size, 0, none⟩) L L) (W.alloc (.cells (madeCells #[.int .i64 0] L) 3)) := by
  obtain ⟨i, h1, h2, h3, h4⟩ := info_parts (show (Tryz.prog.info? 3).map (fun i => (i.zero, i.size, i.bytes)) = some (some (.int .i64 0), 1, 8) by kernel_rfl)
  have h := run_makeSlice (P := Tryz.prog) W 47 3 i (.int .i64 0) (by kernel_rfl) h1 h2 .i64 .i64 L L (by omega) (Int.le_refl _) (by rw [h3, Int.toNat_natCast]; omega) (by rw [h4]; omega) (by omega)
  rw [h3, Int.toNat_natCast, Nat.mul_one] at h
  exact h

/-- What the loops of WideMul keep. -/
structure MulI (w W : World) (c0 c1 : Array Value) (BO : Nat) (os : List Int) : Prop where
  k0 : Blk W w.heap.size c0
  k1 : Blk W (w.heap.size + 1) c1
  k2 : Blk W (w.heap.size + 2) #[.int .i64 0, .slice none 0 0]
  out : OutB W BO os
  below : Below w.heap.size w W
theorem MulI.to {w W W' : World} {c0 c1 : Array Value} {BO : Nat} {os : List Int} (h : MulI w W c0 c1 BO os) (hb : Below W.heap.size W W') : MulI w W' c0 c1 BO os :=
  ⟨h.k0.to hb, h.k1.to hb, h.k2.to hb, h.out.to hb, bThen h.below hb⟩
theorem MulI.set {w W : World} {c0 c1 : Array Value} {BO : Nat} {os : List Int} (h : MulI w W c0 c1 BO os) (hB : w.heap.size + 3 ≤ BO) {i : Nat} (hi : i < os.length) (v : Int) : MulI w (W.setCell ⟨BO, i, none⟩ (.int .i64 v)) c0 c1 BO (os.set i v) :=
  ⟨h.k0.other (p := ⟨BO, i, none⟩) (by dsimp only; omega) _, h.k1.other (p := ⟨BO, i, none⟩) (by dsimp only; omega) _, h.k2.other (p := ⟨BO, i, none⟩) (by dsimp only; omega) _, h.out.set hi v, h.below.setCell (p := ⟨BO, i, none⟩) (by dsimp only; omega) _⟩
end
section
open Go.RowKit

set_option maxHeartbeats 4000000 in
set_option maxRecDepth 100000 in
theorem WideMul_any (z1 z2 : Int) (a1 a2 : Option Addr) (v1 v2 : Value) (w : World) (h1 : RW w a1 v1 z1) (h2 : RW w a2 v2 z2) (hl1 : (dg z1).length ≤ 200) (hl2 : (dg z2).length ≤ 200) :
    Calls Tryz.prog 156 #[v1, v2] w fun e w1 => WPost [] (z1 * z2) w e w1 := by
  obtain ⟨c1, rfl, -, hr1⟩ := h1
  obtain ⟨c2, rfl, -, hr2⟩ := h2
  have HR1 := zH hr1
  have HR2 := zH hr2
  have HD1 := zH (dg_dig z1)
  have HD2 := zH (dg_dig z2)
  obtain ⟨sa1, sa2⟩ := sign_bd z1
  obtain ⟨sb1, sb2⟩ := sign_bd z2
  have hzz : (z1.sign * z2.sign) * (val (dg z1) * val (dg z2)) = z1 * z2 := by
    rw [val_dg, val_dg]
    have e1 := Int.sign_mul_natAbs z1
    have e2 := Int.sign_mul_natAbs z2
    calc (z1.sign * z2.sign) * ((z1.natAbs : Int) * (z2.natAbs : Int)) = (z1.sign * z1.natAbs) * (z2.sign * z2.natAbs) := by
          simp only [Int.mul_assoc, Int.mul_left_comm]
      _ = z1 * z2 := by rw [e1, e2]
  have hsg : z1.sign * z2.sign = 1 ∨ z1.sign * z2.sign = -1 ∨ val (dg z1) * val (dg z2) = 0 := by
    rcases Int.lt_trichotomy z1 0 with h | h | h
    · rcases Int.lt_trichotomy z2 0 with h' | h' | h'
      · rw [Int.sign_eq_neg_one_of_neg h, Int.sign_eq_neg_one_of_neg h']; exact .inl rfl
      · right; right; rw [h', val_dg, val_dg]; simp
      · rw [Int.sign_eq_neg_one_of_neg h, Int.sign_eq_one_of_pos h']; exact .inr (.inl rfl)
    · right; right; rw [h, val_dg, val_dg]; simp
    · rcases Int.lt_trichotomy z2 0 with h' | h' | h'
      · rw [Int.sign_eq_one_of_pos h, Int.sign_eq_neg_one_of_neg h']; exact .inr (.inl rfl)
      · right; right; rw [h', val_dg, val_dg]; simp
      · rw [Int.sign_eq_one_of_pos h, Int.sign_eq_one_of_pos h']; exact .inl rfl
  have hsb : -1 ≤ z1.sign * z2.sign ∧ z1.sign * z2.sign ≤ 1 := mul_bd (A := 1) (B := 1) sa1 sa2 sb1 sb2
  have HWF : Hid (∀ (out : List Int) (b : Nat) (W : World), Dig out → val out = val (dg z1) * val (dg z2) → out.length ≤ 401 → Reads W (some ⟨b, 0, none⟩) out.length (ints out) → Calls Tryz.prog 176 #[.int .i64 (z1.sign * z2.sign), .slice (some ⟨b, 0, none⟩) out.length out.length] W fun e w1 => WAt (some ⟨b, 0, none⟩) (z1 * z2) W e w1) := zH (fun out b W hd hv hl hr => by
    have := wideOf_any (z1.sign * z2.sign) out (some ⟨b, 0, none⟩) out.length W hd (by rw [hv]; exact hsg) (by omega) (Nat.le_refl _) hr
    rw [hv, hzz] at this
    exact this)
  obtain ⟨s1, hs1⟩ : ∃ s, z1.sign = s := ⟨_, rfl⟩
  obtain ⟨s2, hs2⟩ : ∃ s, z2.sign = s := ⟨_, rfl⟩
  obtain ⟨A, hA⟩ : ∃ A, dg z1 = A := ⟨_, rfl⟩
  obtain ⟨B, hB⟩ : ∃ B, dg z2 = B := ⟨_, rfl⟩
  rw [hs1] at HWF hsb sa1 sa2
  rw [hs2] at HWF hsb sb1 sb2
  rw [hA] at HWF hl1 HR1 HD1
  rw [hB] at HWF hl2 HR2 HD2
  rw [hs1, hs2, hA, hB]
  obtain ⟨hsb1, hsb2⟩ := hsb
  clear hr1 hr2 hzz hsg hs1 hs2 hA hB
  obtain ⟨n1, hn1⟩ : ∃ n, A.length = n := ⟨_, rfl⟩
  obtain ⟨n2, hn2⟩ : ∃ n, B.length = n := ⟨_, rfl⟩
  have HN1 := zH hn1
  have HN2 := zH hn2
  rw [hn1] at hl1 HR1 ⊢
  rw [hn2] at hl2 HR2 ⊢
  clear hn1 hn2
  obtain ⟨L, hL⟩ : ∃ L : Nat, (n1 : Int) + (n2 : Int) + 1 = (L : Int) := ⟨n1 + n2 + 1, by omega⟩
  have HL := zH hL
  have hmk := make_ints L (by omega)
  go_enter Tryz.func156, Tryz.ntmps156
  go_upto_region 1 with (fail)
  obtain ⟨w3, hw3⟩ : ∃ w3, ((w.alloc (.cells #[.int .i64 s1, .slice a1 n1 c1] 110)).alloc (.cells #[.int .i64 s2, .slice a2 n2 c2] 110)).alloc (.cells #[.int .i64 0, .slice none 0 0] 110) = w3 := ⟨_, rfl⟩
  rw [hw3]
  have K0 : Hid (Blk w3 w.heap.size #[.int .i64 s1, .slice a1 n1 c1]) := by subst hw3; exact zH (((Blk.new _ _ _).alloc _).alloc _)
  have K1 : Hid (Blk w3 (w.heap.size + 1) #[.int .i64 s2, .slice a2 n2 c2]) := by subst hw3; exact zH ((Blk.newAt _ _ _ (by simp)).alloc _)
  have K2 : Hid (Blk w3 (w.heap.size + 2) #[.int .i64 0, .slice none 0 0]) := by subst hw3; exact zH (Blk.newAt _ _ _ (by simp))
  have HB : Hid (Below w.heap.size w w3) := by subst hw3; exact zH (bAlloc (bAlloc (bAlloc (bSelf w) _) _) _)
  clear hw3
  obtain ⟨-, k0, -⟩ := K0.out
  obtain ⟨-, k1, -⟩ := K1.out
  go_upto_region 2 with (fail)
  obtain ⟨w4, hw4⟩ : ∃ w4, w3.alloc (.cells (madeCells #[.int .i64 0] L) 3) = w4 := ⟨_, rfl⟩
  rw [hw4]
  have HMI : Hid (MulI w w4 #[.int .i64 s1, .slice a1 n1 c1] #[.int .i64 s2, .slice a2 n2 c2] w3.heap.size (List.replicate L 0)) := by
    subst hw4
    exact zH ⟨K0.out.alloc _, K1.out.alloc _, K2.out.alloc _, OutB.new w3 L, bAlloc HB.out _⟩
  have hBO : w.heap.size + 3 ≤ w3.heap.size := K2.out.1
  obtain ⟨BO, hBOe⟩ : ∃ b, w3.heap.size = b := ⟨_, rfl⟩
  rw [hBOe] at HMI hBO ⊢
  clear hw4 hBOe K0 K1 K2 HB k0 k1 hmk
  go_wp2_with fail
  go_loopw [6] (fun v wr => ∃ (i : Nat) (os : List Int), v = .int .i64 i ∧ i ≤ n1 ∧ Hid (os.length = L) ∧ Hid (Dig os) ∧ Hid (val os = val (A.take i) * val B) ∧ Hid (MulI w wr #[.int .i64 s1, .slice a1 n1 c1] #[.int .i64 s2, .slice a2 n2 c2] BO os)) (fun v _ => n1 - (intOf v).toNat)
  case atStart => exact ⟨0, List.replicate L 0, rfl, Nat.zero_le _, zH (by simp), zH (Dig.rep L), zH (by rw [val_rep]; simp [val]), HMI⟩
  case round =>
    obtain ⟨i, os, rfl, hi, hol, hod, hov, hmi⟩ := hrel
    by_cases hlt : i < n1
    · have hltI : decide ((i : Int) < (n1 : Int)) = true := decide_eq_true (by omega)
      obtain ⟨b1, o1, rfl, hb1', hc1'⟩ := HR1.out.at (k := i) hlt
      have ca : Hid (w.cell? ⟨b1, o1 + i, none⟩ = some (.int .i64 (gi A i))) := zH (hc1' i hlt)
      have hx := HD1.out.at i
      have HSA := zH (val_take_more A i)
      obtain ⟨x, hxe⟩ : ∃ x, gi A i = x := ⟨_, rfl⟩
      rw [hxe] at ca hx HSA
      obtain ⟨x0, x1⟩ := hx
      clear hc1' hxe
      obtain ⟨-, k0, -⟩ := hmi.out.k0
      go_wp2_with fail
      clear k0 hltI
      obtain ⟨wA, hwA⟩ : ∃ wA, wA = wr := ⟨_, rfl⟩
      subst hwA
      go_loopw [7, 8] (fun cv kv wr => ∃ (k : Nat) (c : Int) (ot : List Int), kv = .int .i64 k ∧ cv = .int .i64 c ∧ k ≤ n2 ∧ 0 ≤ c ∧ c < 1000000000 ∧ Hid (ot.length = L) ∧ Hid (Dig ot) ∧ Hid (val ot + 1000000000 ^ (i + k) * c = val os + 1000000000 ^ i * (x * val (B.take k))) ∧ Hid (MulI w wr #[.int .i64 s1, .slice (some ⟨b1, o1, none⟩) n1 c1] #[.int .i64 s2, .slice a2 n2 c2] BO ot)) (fun _ kv _ => n2 - (intOf kv).toNat)
      case atStart => exact ⟨0, 0, os, rfl, rfl, Nat.zero_le _, by omega, by omega, hol, hod, zH (by simp [val]), hmi⟩
      case round =>
        obtain ⟨k, c, ot, rfl, rfl, hk, c0, c9, htl, htd, htv, hmt⟩ := hrel
        by_cases hkt : k < n2
        · have hktI : decide ((k : Int) < (n2 : Int)) = true := decide_eq_true (by omega)
          obtain ⟨b2, o2, rfl, hb2', hc2'⟩ := HR2.out.at (k := k) hkt
          have cb : Hid (w.cell? ⟨b2, o2 + k, none⟩ = some (.int .i64 (gi B k))) := zH (hc2' k hkt)
          have hy := HD2.out.at k
          have HSB := zH (val_take_more B k)
          obtain ⟨y, hye⟩ : ∃ y, gi B k = y := ⟨_, rfl⟩
          rw [hye] at cb hy HSB
          obtain ⟨y0, y1⟩ := hy
          obtain ⟨n, hn⟩ : ∃ n : Nat, i + k = n := ⟨_, rfl⟩
          have hnI : (i : Int) + (k : Int) = (n : Int) := by omega
          have hnL : n < L := by omega
          have HNL := zH (show n < ot.length by rw [htl.out]; exact hnL)
          have co : Hid (wr.cell? ⟨BO, n, none⟩ = some (.int .i64 (gi ot n))) := zH (hmt.out.out.2.1 n HNL.out)
          have ho := htd.out.at n
          obtain ⟨o, hoe⟩ : ∃ o, gi ot n = o := ⟨_, rfl⟩
          rw [hoe] at co ho
          have HOE := zH hoe
          obtain ⟨oo0, oo1⟩ := ho
          rw [hn] at htv
          have HN := zH hn
          obtain ⟨m0, m1, m2, m3⟩ := mul_dig oo0 oo1 x0 x1 y0 y1 c0 c9
          have hBOr : BO < wr.heap.size := hmt.out.out.1
          clear hc2' hye hn hoe
          obtain ⟨-, k1, -⟩ := hmt.out.k1
          go_upto_region 9 with (fail)
          clear k1 hktI
          refine wp_region_quiet_all (fun w' => Below (World.heap wr).size (wr) w') (by kernel_rfl) (by kernel_rfl) (Below.refl _ _).drew ?_
          refine WQ.out ?_
          repeat (first | (refine WQ_no (by rfl) ?_; (simp only [Act.put, zzT, zzO, zzS])) | (refine WQ_yes (by rfl) ?_; apply Exists.intro; refine ⟨fun w1 hb1 => ?_, ?_⟩; (focus (((obtain ⟨-, k0, -⟩ := (hmt.out.to hb1).k0; obtain ⟨-, k1, -⟩ := (hmt.out.to hb1).k1; have ko := (hb1.cell (p := ⟨BO, n, none⟩) hBOr).trans co.out; have kx := ((hmt.out.to hb1).below.cell (p := ⟨b1, o1 + i, none⟩) hb1').trans ca.out; have ky := ((hmt.out.to hb1).below.cell (p := ⟨b2, o2 + k, none⟩) hb2').trans cb.out); have hb1 := zH hb1; go_simp); (try (go_bits; try go_simp)); (try (rw [if_pos (by omega)]; try go_simp)); (first | done | (with_reducible rfl) | exact rfl))); (simp only [Act.put, zzT, zzO, zzS])))
          refine WQ_nil ?_
          intro w1 hb1
          replace hmt := zH (hmt.out.to hb1)
          replace co := zH ((hb1.cell (p := ⟨BO, n, none⟩) hBOr).trans co.out)
          clear hb1 hBOr
          obtain ⟨s, hs⟩ : ∃ s, o + x * y + c = s := ⟨_, rfl⟩
          rw [hs] at m2 m3 ⊢
          have HS := zH hs
          obtain ⟨d, hd⟩ : ∃ d, s % 1000000000 = d := ⟨_, rfl⟩
          obtain ⟨q, hq⟩ : ∃ q, s / 1000000000 = q := ⟨_, rfl⟩
          have hd' : s.tmod 1000000000 = d := by rw [Int.tmod_eq_emod_of_nonneg (by omega)]; exact hd
          have hq' : s.tdiv 1000000000 = q := by rw [Int.tdiv_eq_ediv_of_nonneg (by omega)]; exact hq
          have hdq : s = d + 1000000000 * q ∧ 0 ≤ d ∧ d < 1000000000 ∧ 0 ≤ q ∧ q < 1000000000 := by omega
          obtain ⟨e, d0, d1, q0, q1⟩ := hdq
          have HE := zH e
          clear e hd hq hs m0 m1
          obtain ⟨-, -, fo⟩ := hmt.out.out
          have ko := co.out
          go_wp2_with fail
          go_roundw
          case rel =>
            refine ⟨k + 1, q, ot.set n d, by go_num, rfl, by omega, q0, q1, zH (by rw [List.length_set]; exact htl.out), zH (htd.out.set n d0 d1), zH ?_, zH (hmt.out.set hBO HNL.out d)⟩
            have e := mul_step (s := s) (a := x) (b := y) HNL.out htv.out (by rw [HOE.out]; exact HS.out.symm) HE.out
            have e2 : i + (k + 1) = n + 1 := by have := HN.out; omega
            have e3 : (1000000000 : Int) ^ n = 1000000000 ^ i * 1000000000 ^ k := by rw [← HN.out, Int.pow_add]
            rw [e2, e, HSB.out, Int.mul_add, Int.mul_add, ← Int.add_assoc]
            congr 1
            rw [e3]
            simp only [Int.mul_assoc, Int.mul_left_comm]
          case measure => simp [intOf]; omega
        · have hktI : decide ((k : Int) < (n2 : Int)) = false := decide_eq_false (by omega)
          have hktN : decide (k < n2) = false := decide_eq_false hkt
          obtain ⟨n, hn⟩ : ∃ n : Nat, i + k = n := ⟨_, rfl⟩
          have hke : k = n2 := by omega
          have hnI : (i : Int) + (n2 : Int) = (n : Int) := by omega
          have hnL : n < L := by omega
          have HNL := zH (show n < ot.length by rw [htl.out]; exact hnL)
          have hV : val os + 1000000000 ^ i * (x * val (B.take k)) = val (A.take (i + 1)) * val B := by
            rw [HSA.out, Int.add_mul, hov.out, val_take_all (l := B) (k := k) (by rw [HN2.out]; omega), Int.mul_assoc]
          have hVb : val (A.take (i + 1)) * val B < 1000000000 ^ (n + 1) := by
            have h1 := val_nonneg (HD1.out.take (i + 1))
            have h2 := val_lt (HD1.out.take (i + 1))
            have h3 := val_nonneg HD2.out
            have h4 := val_lt HD2.out
            rw [List.length_take, HN1.out, Nat.min_eq_left (by omega)] at h2
            rw [HN2.out] at h4
            have h5 := mul_bd' h1 h2 h3 h4
            rw [← Int.pow_add] at h5
            have e : i + 1 + n2 = n + 1 := by omega
            rw [e] at h5
            exact h5
          have htv2 := htv.out
          rw [hn, hV] at htv2
          obtain ⟨g1, g2⟩ := mul_end htd.out HNL.out htv2 hVb
          have co : Hid (wr.cell? ⟨BO, n, none⟩ = some (.int .i64 (gi ot n))) := zH (hmt.out.out.2.1 n HNL.out)
          have ho := htd.out.at n
          have HG2 := zH g2
          obtain ⟨o, hoe⟩ : ∃ o, gi ot n = o := ⟨_, rfl⟩
          rw [hoe] at co ho HG2 g1
          obtain ⟨oo0, oo1⟩ := ho
          have hBOr : BO < wr.heap.size := hmt.out.out.1
          have HKE := zH hke
          clear hn hoe hke hV hVb htv2 g2
          obtain ⟨-, k1, -⟩ := hmt.out.k1
          go_upto_region 11 with (fail)
          clear k1 hktI hktN hkt
          refine wp_region_quiet_tail 17 (fun w' => Below (World.heap wr).size (wr) w') (by kernel_rfl) (by kernel_rfl) (Below.refl _ _).drew ?_
          simp only [List.take_succ_cons, List.take_zero, List.drop_succ_cons, List.drop_zero]
          repeat (first | (refine wpQuiet_no (by rfl) ?_; (simp only [Act.put, zzT, zzO, zzS])) | (refine wpQuiet_yes (by rfl) ?_; apply Exists.intro; refine ⟨fun w1 hb1 => ?_, ?_⟩; (focus (((obtain ⟨-, k1, -⟩ := (hmt.out.to hb1).k1; have ko := (hb1.cell (p := ⟨BO, n, none⟩) hBOr).trans co.out); have hb1 := zH hb1; go_simp); (try (go_bits; try go_simp)); (try (rw [if_pos (by omega)]; try go_simp)); (first | done | (with_reducible rfl) | exact rfl))); (simp only [Act.put, zzT, zzO, zzS])))
          refine wpQuiet_nil ?_
          intro w1 hb1
          replace hmt := zH (hmt.out.to hb1)
          replace co := zH ((hb1.cell (p := ⟨BO, n, none⟩) hBOr).trans co.out)
          clear hb1 hBOr
          obtain ⟨-, -, fo⟩ := hmt.out.out
          have ko := co.out
          go_wp2_with fail
          go_roundw
          case rel =>
            exact ⟨i + 1, ot.set n (o + c), by go_num, by omega, zH (by rw [List.length_set]; exact htl.out), zH (htd.out.set n (by omega) g1), HG2, zH (hmt.out.set hBO HNL.out _)⟩
          case measure => simp [intOf]; omega
    · have hltI : decide ((i : Int) < (n1 : Int)) = false := decide_eq_false (by omega)
      have hltN : decide (i < n1) = false := decide_eq_false hlt
      have hval : val os = val A * val B := by rw [hov.out, val_take_all (by rw [HN1.out]; omega)]
      have HWL : Hid (∀ W, OutB W BO os → Calls Tryz.prog 176 #[.int .i64 (s1 * s2), .slice (some ⟨BO, 0, none⟩) L L] W fun e w1 => WAt (some ⟨BO, 0, none⟩) (z1 * z2) W e w1) := zH (fun W h => by
        have := HWF.out os BO W hod.out hval (by rw [hol.out]; omega) h.reads
        rw [hol.out] at this
        exact this)
      clear hval
      obtain ⟨-, k0, -⟩ := hmi.out.k0
      obtain ⟨-, k1, -⟩ := hmi.out.k1
      go_wp2_with fail
      refine (HWL.out _ hmi.out.out).mono ?_
      rintro e w5 ⟨v5, rfl, hv5, hb⟩
      have HM5 := zH (hmi.out.to hb)
      have HV5 := zH hv5
      obtain ⟨c5, rfl, -, -⟩ := hv5
      clear hb k0 k1
      have HP : Hid (∀ (w' : World) (e : Ending), w' = (w5.setCell ⟨w.heap.size + 1 + 1, 0, none⟩ (.int .i64 (z1 * z2).sign)).setCell ⟨w.heap.size + 1 + 1, 1, none⟩ (.slice (some ⟨BO, 0, none⟩) (dg (z1 * z2)).length c5) → e = .returned (.agg #[.int .i64 (z1 * z2).sign, .slice (some ⟨BO, 0, none⟩) (dg (z1 * z2)).length c5]) → WPost [] (z1 * z2) w e w') := zH (fun w' e hw he => by
        subst hw
        refine ⟨_, _, he, HV5.out.set2 (fun p hp => by cases hp; dsimp only; omega) _ _, ?_, fun P hf _ _ p hp => hf _ (by cases hp; dsimp only; omega)⟩
        exact (HM5.out.below.setCell (p := ⟨w.heap.size + 1 + 1, 0, none⟩) (by dsimp only; omega) _).setCell (p := ⟨w.heap.size + 1 + 1, 1, none⟩) (by dsimp only; omega) _)
      clear HV5
      obtain ⟨sg, hsg⟩ : ∃ s, (z1 * z2).sign = s := ⟨_, rfl⟩
      obtain ⟨D, hD⟩ : ∃ n, (dg (z1 * z2)).length = n := ⟨_, rfl⟩
      rw [hsg, hD] at HP ⊢
      clear hsg hD
      have K2 : Hid (Blk w5 (w.heap.size + 1 + 1) #[.int .i64 0, .slice none 0 0]) := zH HM5.out.k2
      obtain ⟨h2, k2, f2⟩ := K2.out
      go_wp2_with fail
      clear k2 f2
      have F := ((K2.out.set 0 (.int .i64 sg)).set 1 (.slice (some ⟨BO, 0, none⟩) D c5)).2.1
      have F0 := F 0; have F1 := F 1
      clear F
      refine bodyPost_ret (v := .agg #[.int .i64 sg, .slice (some ⟨BO, 0, none⟩) D c5]) ?_ rfl (HP.out _ _ rfl rfl)
      simp [results, Tryz.results156, go_sem, F0, F1]
end
end Go.Proofs.YtjfedpblkejmkaaGreat
