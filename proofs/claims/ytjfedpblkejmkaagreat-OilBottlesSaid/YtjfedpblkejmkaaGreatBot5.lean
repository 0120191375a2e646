/-
  Texts of this claim, in their build order: W1 P1 Lib9 Lib10.
-/
import Derived.Test.YtjfedpblkejmkaaGreatBot1
import Derived.Test.YtjfedpblkejmkaaGreatBot4
import Derived.Test.YtjfedpblkejmkaaGreatBot3

namespace Go.Proofs.YtjfedpblkejmkaaGreat
section
open Go.RowKit

/-- The number of digits, the lowest one first. -/
def val : List Int → Int
  | [] => 0
  | d :: l => d + 1000000000 * val l
/-- Digits. -/
def Dig (l : List Int) : Prop := ∀ d ∈ l, 0 ≤ d ∧ d < 1000000000
theorem Dig.nil : Dig [] := fun d h => by cases h
theorem Dig.cons {d : Int} {l : List Int} (h1 : 0 ≤ d) (h2 : d < 1000000000) (h : Dig l) : Dig (d :: l) := fun e he => by
  rcases List.mem_cons.1 he with rfl | he
  · exact ⟨h1, h2⟩
  · exact h e he
theorem Dig.tail {d : Int} {l : List Int} (h : Dig (d :: l)) : Dig l := fun e he => h e (List.mem_cons_of_mem _ he)
theorem Dig.head {d : Int} {l : List Int} (h : Dig (d :: l)) : 0 ≤ d ∧ d < 1000000000 := h d (List.mem_cons_self ..)
theorem Dig.at {l : List Int} (h : Dig l) (k : Nat) : 0 ≤ gi l k ∧ gi l k < 1000000000 := by
  by_cases hk : k < l.length
  · rw [gi_lt hk]; exact h _ (List.getElem_mem hk)
  · have : gi l k = 0 := by
      unfold gi
      rw [List.getD_eq_getElem?_getD, List.getElem?_eq_none (by omega)]
      rfl
    omega
theorem Dig.take {l : List Int} (h : Dig l) (n : Nat) : Dig (l.take n) := fun d hd => h d (List.mem_of_mem_take hd)
theorem Dig.append {l m : List Int} (h : Dig l) (h' : Dig m) : Dig (l ++ m) := fun d hd => by
  rcases List.mem_append.1 hd with hd | hd
  · exact h d hd
  · exact h' d hd
theorem val_nonneg : ∀ {l : List Int}, Dig l → 0 ≤ val l
  | [], _ => Int.le_refl 0
  | d :: l, h => by
    have h1 := val_nonneg h.tail
    have h2 := h.head
    unfold val
    omega

/-- The digits of a number. -/
def digs (n : Nat) : List Int := if h : n = 0 then [] else ((n % 1000000000 : Nat) : Int) :: digs (n / 1000000000)
termination_by n
decreasing_by exact Nat.div_lt_self (by omega) (by decide)
theorem digs_zero : digs 0 = [] := by rw [digs]; simp
theorem digs_pos {n : Nat} (h : n ≠ 0) : digs n = ((n % 1000000000 : Nat) : Int) :: digs (n / 1000000000) := by rw [digs]; simp [h]
theorem digs_dig (n : Nat) : Dig (digs n) := by
  induction n using Nat.strongRecOn with
  | ind n ih =>
    by_cases h : n = 0
    · subst h; rw [digs_zero]; exact Dig.nil
    · rw [digs_pos h]
      exact Dig.cons (by omega) (by omega) (ih _ (Nat.div_lt_self (by omega) (by decide)))
theorem val_digs (n : Nat) : val (digs n) = n := by
  induction n using Nat.strongRecOn with
  | ind n ih =>
    by_cases h : n = 0
    · subst h; rw [digs_zero]; rfl
    · rw [digs_pos h]
      unfold val
      rw [ih _ (Nat.div_lt_self (by omega) (by decide))]
      omega
theorem digs_nil {n : Nat} (h : digs n = []) : n = 0 := by
  have := val_digs n
  rw [h] at this
  have e : val [] = 0 := rfl
  omega

/-- No zero at the end. -/
def NoZ (l : List Int) : Prop := l = [] ∨ gi l (l.length - 1) ≠ 0
theorem NoZ.tail {d : Int} {l : List Int} (h : NoZ (d :: l)) : NoZ l := by
  rcases l with _ | ⟨e, l⟩
  · exact .inl rfl
  · refine .inr ?_
    rcases h with h | h
    · cases h
    · exact h
theorem canon_eq : ∀ {l : List Int}, Dig l → NoZ l → l = digs (val l).toNat
  | [], _, _ => by rw [show (val []).toNat = 0 from rfl, digs_zero]
  | d :: l, hd, hz => by
    have ih := canon_eq hd.tail hz.tail
    have h1 := hd.head
    have h2 := val_nonneg hd.tail
    have hn : (val (d :: l)).toNat ≠ 0 := by
      intro h0
      have h3 : val (d :: l) = d + 1000000000 * val l := rfl
      have h4 : d = 0 ∧ val l = 0 := by omega
      have h5 : l = [] := by rw [ih, h4.2]; exact digs_zero
      subst h5
      rcases hz with h | h
      · cases h
      · exact h h4.1
    rw [digs_pos hn]
    have h3 : val (d :: l) = d + 1000000000 * val l := rfl
    have e1 : (((val (d :: l)).toNat % 1000000000 : Nat) : Int) = d := by omega
    have e2 : (val (d :: l)).toNat / 1000000000 = (val l).toNat := by omega
    rw [e1, e2, ← ih]
theorem digs_noz (n : Nat) : NoZ (digs n) := by
  induction n using Nat.strongRecOn with
  | ind n ih =>
    by_cases h : n = 0
    · subst h; exact .inl digs_zero
    · have ih' := ih _ (Nat.div_lt_self (n := n) (by omega) (show 1 < 1000000000 by decide))
      rw [digs_pos h]
      refine .inr ?_
      rcases ih' with h1 | h1
      · rw [h1]
        have := digs_nil h1
        show ((n % 1000000000 : Nat) : Int) ≠ 0
        omega
      · intro h2
        apply h1
        have hl : digs (n / 1000000000) ≠ [] := by
          intro h3; rw [h3] at h1; exact h1 rfl
        obtain ⟨e, t, he⟩ := List.exists_cons_of_ne_nil hl
        rw [he] at h2 ⊢
        exact h2

theorem val_append : ∀ (l m : List Int), val (l ++ m) = val l + 1000000000 ^ l.length * val m
  | [], m => by simp [val]
  | d :: l, m => by
    rw [List.cons_append]
    show d + 1000000000 * val (l ++ m) = d + 1000000000 * val l + 1000000000 ^ (l.length + 1) * val m
    rw [val_append l m, Int.pow_succ, Int.mul_add, Int.add_assoc, Int.mul_comm (1000000000 ^ l.length) 1000000000, Int.mul_assoc]
theorem val_zeros : ∀ {l : List Int}, (∀ k, k < l.length → gi l k = 0) → val l = 0
  | [], _ => rfl
  | d :: l, h => by
    have h0 : d = 0 := h 0 (by simp)
    have h1 : val l = 0 := val_zeros (fun k hk => h (k + 1) (by simpa using hk))
    unfold val
    rw [h0, h1]; rfl
theorem gi_drop_at (l : List Int) (n k : Nat) : gi (l.drop n) k = gi l (n + k) := by
  unfold gi
  rw [List.getD_eq_getElem?_getD, List.getD_eq_getElem?_getD, List.getElem?_drop]
theorem gi_take_at {l : List Int} {n k : Nat} (h : k < n) : gi (l.take n) k = gi l k := by
  unfold gi
  rw [List.getD_eq_getElem?_getD, List.getD_eq_getElem?_getD, List.getElem?_take_of_lt h]
theorem val_take {l : List Int} {n : Nat} (h : ∀ k, n ≤ k → k < l.length → gi l k = 0) : val (l.take n) = val l := by
  conv => rhs; rw [← List.take_append_drop n l, val_append]
  have : val (l.drop n) = 0 := val_zeros (fun k hk => by
    rw [gi_drop_at]
    rw [List.length_drop] at hk
    exact h _ (by omega) (by omega))
  rw [this]; simp
/-- What trimming leaves. -/
theorem trim_eq {l : List Int} (hd : Dig l) {n : Nat} (hn : n ≤ l.length) (h : ∀ k, n ≤ k → k < l.length → gi l k = 0) (h0 : n = 0 ∨ gi l (n - 1) ≠ 0) : l.take n = digs (val l).toNat := by
  rw [← val_take h]
  refine canon_eq (hd.take n) ?_
  rcases h0 with rfl | h0
  · exact .inl (by simp)
  · by_cases hz : n = 0
    · subst hz; exact .inl (by simp)
    · refine .inr ?_
      rw [List.length_take, Nat.min_eq_left hn, gi_take_at (by omega)]
      exact h0

/-- There is a place to trim at. -/
theorem trim_at (l : List Int) : ∃ m, m ≤ l.length ∧ (∀ k, m ≤ k → k < l.length → gi l k = 0) ∧ (m = 0 ∨ gi l (m - 1) ≠ 0) := by
  suffices h : ∀ n, n ≤ l.length → (∀ k, n ≤ k → k < l.length → gi l k = 0) → ∃ m, m ≤ l.length ∧ (∀ k, m ≤ k → k < l.length → gi l k = 0) ∧ (m = 0 ∨ gi l (m - 1) ≠ 0) from
    h l.length (Nat.le_refl _) (fun k h1 h2 => by omega)
  intro n
  induction n with
  | zero => intro h1 h2; exact ⟨0, h1, h2, .inl rfl⟩
  | succ n ih =>
    intro h1 h2
    by_cases hg : gi l n = 0
    · exact ih (by omega) (fun k h3 h4 => by
        by_cases hk : k = n
        · rw [hk]; exact hg
        · exact h2 k (by omega) h4)
    · exact ⟨n + 1, h1, h2, .inr hg⟩
theorem trim_ex {l : List Int} (hd : Dig l) {n : Nat} (hn : val l = n) : ∃ m, digs n = l.take m := by
  obtain ⟨m, h1, h2, h3⟩ := trim_at l
  refine ⟨m, ?_⟩
  rw [trim_eq hd h1 h2 h3, hn]; rfl
theorem val_snoc (l : List Int) (d : Int) : val (l ++ [d]) = val l + 1000000000 ^ l.length * d := by
  rw [val_append]; simp [val]
theorem val_take_succ {l : List Int} {k : Nat} (hk : k < l.length) : val (l.take (k + 1)) = val (l.take k) + 1000000000 ^ k * gi l k := by
  rw [gi_take l k hk, val_snoc, List.length_take, Nat.min_eq_left (by omega)]
theorem val_take_all {l : List Int} {k : Nat} (hk : l.length ≤ k) : val (l.take k) = val l := by rw [List.take_of_length_le hk]
theorem val_lt : ∀ {l : List Int}, Dig l → val l < 1000000000 ^ l.length
  | [], _ => by show (0 : Int) < 1; decide
  | d :: l, h => by
    have ih := val_lt h.tail
    have h1 := h.head
    rw [List.length_cons, Int.pow_succ]
    unfold val
    omega

/-- A number as the program holds it: its sign, its digits. -/
def dg (z : Int) : List Int := digs z.natAbs
theorem val_dg (z : Int) : val (dg z) = z.natAbs := val_digs _
theorem dg_dig (z : Int) : Dig (dg z) := digs_dig _
def RW (W : World) (a : Option Addr) (v : Value) (z : Int) : Prop :=
  ∃ cap, v = .agg #[.int .i64 z.sign, .slice a (dg z).length cap] ∧ (dg z).length ≤ cap ∧ Reads W a (dg z).length (ints (dg z))
theorem RW.to {W W' : World} {a : Option Addr} {v : Value} {z : Int} (h : RW W a v z) (hb : Below W.heap.size W W') : RW W' a v z := by
  obtain ⟨cap, h1, h2, h3⟩ := h
  exact ⟨cap, h1, h2, h3.to hb⟩
theorem sign_bd (z : Int) : -1 ≤ z.sign ∧ z.sign ≤ 1 := by
  rcases Int.lt_trichotomy z 0 with h | h | h
  · rw [Int.sign_eq_neg_one_of_neg h]; decide
  · rw [h]; decide
  · rw [Int.sign_eq_one_of_pos h]; decide
theorem dg_neg (z : Int) : dg (-z) = dg z := by unfold dg; rw [Int.natAbs_neg]
theorem digs_len : ∀ (k n : Nat), n < 1000000000 ^ k → (digs n).length ≤ k
  | 0, n, h => by
    have : n = 0 := by simpa using h
    rw [this, digs_zero]; simp
  | k + 1, n, h => by
    by_cases h0 : n = 0
    · rw [h0, digs_zero]; simp
    · rw [digs_pos h0, List.length_cons]
      have := digs_len k (n / 1000000000) (by rw [Nat.div_lt_iff_lt_mul (by decide)]; rw [Nat.pow_succ] at h; exact h)
      omega

/-- Where the digits of a number lie, if it has any. -/
def Loc (P : Nat → Prop) (a : Option Addr) (z : Int) : Prop := dg z ≠ [] → ∀ p, a = some p → P p.block
/-- What comes of a call: a number, whose digits lie in new memory or where an argument's do. -/
def WPost (ins : List (Option Addr × Int)) (z : Int) (w : World) (e : Ending) (w' : World) : Prop :=
  ∃ a v, e = .returned v ∧ RW w' a v z ∧ Below w.heap.size w w' ∧ ∀ P : Nat → Prop, (∀ b, w.heap.size ≤ b → P b) → (∀ i ∈ ins, Loc P i.1 i.2) → Loc P a z
theorem RW.loc {W : World} {a : Option Addr} {v : Value} {z : Int} (h : RW W a v z) : Loc (fun b => b < W.heap.size) a z := by
  obtain ⟨cap, -, -, h3⟩ := h
  intro hn p hp
  rcases h3 with h | ⟨b, off, ha, hlt, -⟩
  · exact absurd (List.length_eq_zero_iff.1 h) hn
  · rw [hp] at ha; cases ha; exact hlt
theorem RW.keep {W W' : World} {a : Option Addr} {v : Value} {z : Int} (h : RW W a v z) (hb : Reads W a (dg z).length (ints (dg z)) → Reads W' a (dg z).length (ints (dg z))) : RW W' a v z := by
  obtain ⟨cap, h1, h2, h3⟩ := h
  exact ⟨cap, h1, h2, hb h3⟩

/-- The same, where it is known where the digits lie. -/
def WAt (a : Option Addr) (z : Int) (w : World) (e : Ending) (w' : World) : Prop := ∃ v, e = .returned v ∧ RW w' a v z ∧ Below w.heap.size w w'
end
section
open Go.RowKit

theorem fr_ex {n m : Int} (hm : 0 < m) : ∃ g a b : Int, 0 < g ∧ 0 < b ∧ n = g * a ∧ m = g * b ∧ fr n m = (a, b) ∧ g = (Int.gcd n m : Nat) := by
  have h0 : 0 < Int.gcd n m := Nat.pos_of_ne_zero (fun h => by have := (Int.gcd_eq_zero_iff.1 h).2; omega)
  obtain ⟨a, ha⟩ : ((Int.gcd n m : Nat) : Int) ∣ n := Int.gcd_dvd_left ..
  obtain ⟨b, hb⟩ : ((Int.gcd n m : Nat) : Int) ∣ m := Int.gcd_dvd_right ..
  have hg : (0 : Int) < (Int.gcd n m : Nat) := by omega
  have h1 : n.tdiv ((Int.gcd n m : Nat) : Int) = a := by
    conv => lhs; arg 1; rw [ha]
    exact Int.mul_tdiv_cancel_left _ (by omega)
  have h2 : m.tdiv ((Int.gcd n m : Nat) : Int) = b := by
    conv => lhs; arg 1; rw [hb]
    exact Int.mul_tdiv_cancel_left _ (by omega)
  have hp := fr_pos (n := n) hm
  have e : fr n m = (a, b) := by unfold fr; rw [h1, h2]
  rw [e] at hp
  exact ⟨_, a, b, hg, hp, ha, hb, e, rfl⟩
theorem fr_mul {n m : Int} (hm : 0 < m) : (fr n m).1 * m = n * (fr n m).2 := by
  obtain ⟨g, a, b, -, -, h1, h2, h3, -⟩ := fr_ex (n := n) hm
  rw [h3]; subst h1 h2; grind
theorem fr_scale {n m c : Int} (hc : 0 < c) : fr (c * n) (c * m) = fr n m := by
  unfold fr
  have e : ((Int.gcd (c * n) (c * m) : Nat) : Int) = c * (Int.gcd n m : Nat) := by
    rw [Int.gcd_mul_left, Int.natCast_mul]; congr 1; omega
  rw [e, Int.mul_tdiv_mul_of_pos _ _ hc, Int.mul_tdiv_mul_of_pos _ _ hc]
theorem fr_eq {n m n' m' : Int} (hm : 0 < m) (hm' : 0 < m') (h : n * m' = n' * m) : fr n m = fr n' m' := by
  rw [← fr_scale (n := n) (m := m) hm', ← fr_scale (n := n') (m := m') hm]
  congr 1
  · grind
  · grind
/-- The force of a spring, and the sums over a common multiple of the stiffnesses. -/
def sprF (fs : List Int) (k : Nat) : Int := gi fs k + upTo fs (k + 1) (fs.length - (k + 1))
def refN (ks fs : List Int) (L : Int) : Nat → Int
  | 0 => 0
  | k + 1 => refN ks fs L k + sprF fs k * L.tdiv (gi ks k)
/-- Fractions as the reference holds them. -/
def rAdd (p q : Int × Int) : Int × Int := fr (p.1 * q.2 + q.1 * p.2) (p.2 * q.2)
def rMul (p q : Int × Int) : Int × Int := fr (p.1 * q.1) (p.2 * q.2)
structure Fq (p : Int × Int) (N D : Int) : Prop where
  d0 : 0 < p.2
  D0 : 0 < D
  eq : p.1 * D = N * p.2
theorem Fq.mk' {N D : Int} (h : 0 < D) : Fq (N, D) N D := ⟨h, h, rfl⟩
theorem Fq.add {p q : Int × Int} {N D M E : Int} (h : Fq p N D) (h' : Fq q M E) : Fq (rAdd p q) (N * E + M * D) (D * E) := by
  obtain ⟨a0, a1, a2⟩ := h
  obtain ⟨b0, b1, b2⟩ := h'
  have hpq := Int.mul_pos a0 b0
  refine ⟨fr_pos hpq, Int.mul_pos a1 b1, ?_⟩
  have hm := fr_mul (n := p.1 * q.2 + q.1 * p.2) hpq
  unfold rAdd
  generalize fr (p.1 * q.2 + q.1 * p.2) (p.2 * q.2) = s at *
  refine Int.eq_of_mul_eq_mul_left (a := p.2 * q.2) (by omega) ?_
  grind
theorem Fq.mul {p q : Int × Int} {N D M E : Int} (h : Fq p N D) (h' : Fq q M E) : Fq (rMul p q) (N * M) (D * E) := by
  obtain ⟨a0, a1, a2⟩ := h
  obtain ⟨b0, b1, b2⟩ := h'
  have hpq := Int.mul_pos a0 b0
  refine ⟨fr_pos hpq, Int.mul_pos a1 b1, ?_⟩
  have hm := fr_mul (n := p.1 * q.1) hpq
  unfold rMul
  generalize fr (p.1 * q.1) (p.2 * q.2) = s at *
  refine Int.eq_of_mul_eq_mul_left (a := p.2 * q.2) (by omega) ?_
  grind
end
section
open Go.RowKit

section
variable {P : Program} {N : Nat} {ops : Array Oper} {Q : Exit → Act → World → Prop}

/-- In the world w, and in each later one, operation o leaves v in its slot, and the world as it is. -/
def YF (P : Program) (N : Nat) (o : Oper) (v : Value) (a : Act) (w : World) : Prop := ∀ w', Below N w w' → o.quietAt P a (fun w'' => w'' = w') w' v
def Y2 (P : Program) (N : Nat) (ops : Array Oper) (o : Oper) (v : Value) (a : Act) (w : World) : Prop :=
  (Region.wanted o (yielded ops a.tmps) = true ∧ YF P N o v a w) ∨ (Region.wanted o (yielded ops a.tmps) = false ∧ v = undef)

theorem Y2.later {o : Oper} {v : Value} {a : Act} {w w' : World} (h : Y2 P N ops o v a w) (hb : Below N w w') : Y2 P N ops o v a w' := by
  rcases h with ⟨hw, hv⟩ | h
  · exact .inl ⟨hw, fun w2 h2 => hv w2 (hb.trans h2)⟩
  · exact .inr h
theorem Y2.of_same {o : Oper} {v : Value} {a a' : Act} {w : World} (hy : Y2 P N ops o v a w) (he : execOp a'.eval o = execOp a.eval o)
    (hw : Region.wanted o (yielded ops a'.tmps) = Region.wanted o (yielded ops a.tmps)) : Y2 P N ops o v a' w := by
  unfold Y2 YF Oper.quietAt at *
  rw [he, hw]
  exact hy
theorem Y2.wpOp {i : Nat} {o : Oper} {v : Value} {a : Act} {w : World} (hi : ops[i]? = some o) (hy : Y2 P N ops o v a w) {K : Act → World → Prop} (h : K (a.put o.dst v) w) : wpOp P ops Q i K a w := by
  unfold Go.wpOp
  simp only [hi]
  rcases hy with ⟨hw, hv⟩ | ⟨hw, rfl⟩
  · simp only [hw, if_true]
    refine .inl (Oper.wp_of_quiet (C := fun w' => w' = w) rfl (K := fun a' => a' = a.put o.dst v) (fun a' w' hw' ha' => by rw [hw', ha']; exact h) ⟨v, fun w' hw' => ?_, rfl⟩)
    subst hw'
    exact hv _ (Below.refl _ _)
  · simp only [hw, Bool.false_eq_true, if_false]; exact h

theorem wpOp_put2 {j : Nat} {oi oj : Oper} {v : Value} (hj : ops[j]? = some oj) (hap : oi.apart ops oj = true)
    (hsi : ∀ cs b, oi.op ≠ .select cs b) (hsj : ∀ cs b, oj.op ≠ .select cs b)
    (hQ : ∀ c a w, Q (.panic c) (a.put oi.dst v) w → Q (.panic c) a w) {K : Act → World → Prop} {a : Act} {w : World}
    (hy : Y2 P N ops oi v a w) (h : wpOp P ops Q j (fun a' w' => Below N w w' ∧ K a' w') (a.put oi.dst v) w) :
    wpOp P ops Q j (fun a' w' => Below N w w' ∧ Y2 P N ops oi v a' w' ∧ K (a'.put oi.dst v) w') a w := by
  obtain ⟨h1, h2, h3⟩ := Oper.apart_spec hap
  have keep : ∀ (a : Act) (w' : World), Y2 P N ops oi v a w → Below N w w' → ∀ u, Y2 P N ops oi v (a.put oj.dst u) w' := fun a w' hy hb u =>
    (hy.later hb).of_same (execOp_put oi hsi a oj.dst u h3) (wanted_put oi a oj.dst u h3)
  have keepD : ∀ d, Y2 P N ops oi v { a with defers := d :: a.defers } w := fun d => hy.of_same rfl rfl
  unfold wpOp at *
  simp only [hj] at *
  rw [wanted_put oj a oi.dst v h1] at h
  split
  · rename_i hw
    simp only [hw, if_true] at h
    rcases h with h | ⟨hasks, hlets⟩
    case inr => exact .inr ⟨by unfold Oper.asks at *; rw [execOp_put oj hsj a oi.dst v h1] at hasks; exact hasks, hlets⟩
    refine .inl ?_
    unfold Oper.wp at *
    rw [execOp_put oj hsj a oi.dst v h1] at h
    generalize (execOp a.eval oj).run P w = r at *
    cases r with
    | ok n w' =>
      cases n <;> simp only [Oper.upon] at h ⊢
      case value u => exact ⟨h.1, keep a w' hy h.1 u, by rw [← Act.put_comm a v u h2]; exact h.2⟩
      case skip => exact ⟨h.1, keep a w' hy h.1 _, by rw [← Act.put_comm a v undef h2]; exact h.2⟩
      case defer d =>
        refine ⟨h.1, keep _ w' (keepD d) h.1 _, ?_⟩
        rw [← Act.put_comm _ v undef h2, ← Act.put_defers]
        exact h.2
      case enter f args =>
        refine Calls.mono h fun e w'' he => ?_
        cases e with
        | returned u => exact ⟨he.1, keep a w'' hy he.1 u, by rw [← Act.put_comm a v u h2]; exact he.2⟩
        | panicked c => exact hQ _ _ _ he
        | outgrown => exact he
      case row row args => exact Rows.mono h fun u w'' he => ⟨he.1, keep a w'' hy he.1 u, by rw [← Act.put_comm a v u h2]; exact he.2⟩
    | halt x w' =>
      cases x <;> simp only [Oper.upon] at h ⊢
      case panic u => exact hQ _ _ _ h
  · rename_i hw
    simp only [hw] at h
    exact ⟨h.1, keep a w hy h.1 _, by rw [← Act.put_comm a v undef h2]; exact h.2⟩

/-- Whatever order is picked; each operation leaves what there was. -/
def wpD (P : Program) (N : Nat) (ops : Array Oper) (Q : Exit → Act → World → Prop) : Nat → Array Bool → Act → World → Prop
  | 0, listed, a, w => Region.ready .any ops listed = [] ∧ Q .normal a w
  | f + 1, listed, a, w =>
    (Region.ready .any ops listed = [] → Q .normal a w) ∧
    ∀ i ∈ Region.ready .any ops listed, wpOp P ops Q i (fun a' w' => Below N w w' ∧ wpD P N ops Q f (listed.setIfInBounds i true) a' w') a w
theorem wpAny_of_wpD : ∀ (f : Nat) (listed : Array Bool) (a : Act) (w : World), wpD P N ops Q f listed a w → wpAny P .any ops Q f listed a w
  | 0, _, _, _, h => h
  | f + 1, _, _, _, h => ⟨h.1, fun i hi => wpOp_mono (fun a' w' h' => wpAny_of_wpD f _ a' w' h'.2) (h.2 i hi)⟩

theorem wpD_first {i : Nat} {oi : Oper} {v : Value} (hi : ops[i]? = some oi) (hsel : ∀ (j : Nat) (o : Oper) cs b, ops[j]? = some o → o.op ≠ .select cs b)
    (hQ : ∀ c a w, Q (.panic c) (a.put oi.dst v) w → Q (.panic c) a w) :
    ∀ (fuel : Nat) (listed : Array Bool) (a : Act) (w : World),
      (∀ j oj, ops[j]? = some oj → j ≠ i → listed.getD j true = false → (∀ e ∈ oj.after, Region.binds .any e = true → e.on ≠ i) → oi.apart ops oj = true) →
      i ∈ Region.ready .any ops listed → Y2 P N ops oi v a w →
      wpD P N ops Q fuel (listed.setIfInBounds i true) (a.put oi.dst v) w → wpD P N ops Q (fuel + 1) listed a w := by
  intro fuel
  induction fuel with
  | zero =>
    intro listed a w _ hr hy H
    refine ⟨fun h => (by rw [h] at hr; cases hr), fun j hj => ?_⟩
    by_cases hji : j = i
    · subst hji; exact hy.wpOp hi ⟨Below.refl _ _, H⟩
    · have := ready_mono hj hji
      rw [H.1] at this
      cases this
  | succ fuel ih =>
    intro listed a w hfree hr hy H
    refine ⟨fun h => (by rw [h] at hr; cases hr), fun j hj => ?_⟩
    by_cases hji : j = i
    · subst hji; exact hy.wpOp hi ⟨Below.refl _ _, H⟩
    · have h1 := H.2 j (ready_mono hj hji)
      obtain ⟨hjun, oj, hoj, hall⟩ := mem_ready.1 hj
      have hnot : ∀ e ∈ oj.after, Region.binds .any e = true → e.on ≠ i := fun e he hb heq => by
        have h1 := hall e he hb
        have h0 := (mem_ready.1 hr).1
        rw [heq] at h1
        rcases Nat.lt_or_ge i listed.size with h' | h'
        · simp [h'] at h0 h1; rw [h0] at h1; cases h1
        · simp [Array.getElem?_eq_none h'] at h1
      have h2 := wpOp_put2 hoj (hfree j oj hoj hji hjun hnot) (fun cs b => hsel i oi cs b hi) (fun cs b => hsel j oj cs b hoj) hQ hy h1
      have hfree' : ∀ k ok, ops[k]? = some ok → k ≠ i → (listed.setIfInBounds j true).getD k true = false →
          (∀ e ∈ ok.after, Region.binds .any e = true → e.on ≠ i) → oi.apart ops ok = true := fun k ok hk hki hun hno => by
        refine hfree k ok hk hki ?_ hno
        by_cases hjk : j = k
        · subst hjk; exact hjun
        · rw [getD_set_ne true hjk] at hun; exact hun
      refine wpOp_mono (fun a' w' h3 => ⟨h3.1, ih (listed.setIfInBounds j true) a' w' hfree' (ready_mono hr (Ne.symm hji)) h3.2.1 ?_⟩) h2
      rw [Array.setIfInBounds_comm _ _ hji]
      exact h3.2.2

/-- The first k operations have come up. -/
def lst (n k : Nat) : Array Bool := ((List.range n).map fun i => decide (i < k)).toArray
theorem lst_zero (n : Nat) : lst n 0 = Array.replicate n false := by
  apply Array.ext
  · simp [lst]
  · intro i h1 h2; simp [lst]
theorem lst_set {n k : Nat} (_hk : k < n) : (lst n k).setIfInBounds k true = lst n (k + 1) := by
  apply Array.ext
  · simp [lst]
  · intro i h1 h2
    simp only [lst, Array.size_setIfInBounds, List.size_toArray, List.length_map, List.length_range] at h1
    by_cases hik : k = i
    · subst hik; simp [lst]
    · rw [Array.getElem_setIfInBounds_ne (by simpa [lst] using h1) hik]
      simp only [lst, List.getElem_toArray, List.getElem_map, List.getElem_range]
      by_cases h : i < k
      · rw [decide_eq_true h, decide_eq_true (by omega)]
      · rw [decide_eq_false h, decide_eq_false (by omega)]

/-- May the operations be walked in the text's order? xs: those that may do whatever they do. -/
def mixB (ops : Array Oper) (xs : List Nat) : Bool :=
  Region.noSelect ops && (List.range ops.size).all fun k => if xs.contains k then decide (Region.ready .any ops (lst ops.size k) = [k]) else (Region.ready .any ops (lst ops.size k)).contains k && Region.free .any ops (lst ops.size k) k

def wpMix (P : Program) (N : Nat) (ops : Array Oper) (Q : Exit → Act → World → Prop) (xs : List Nat) : Nat → List Oper → Act → World → Prop
  | _, [], a, w => Q .normal a w
  | k, o :: l, a, w =>
    if xs.contains k = true then wpList P ops (MidQ (fun a' w' => Below N w w' ∧ wpMix P N ops Q xs (k + 1) l a' w') Q) [o] a w
    else ∃ v, Y2 P N ops o v a w ∧ wpMix P N ops Q xs (k + 1) l (a.put o.dst v) w

theorem wpD_of_mix {xs : List Nat} (hB : mixB ops xs = true) (hQ : ∀ c d v a w, Q (.panic c) (a.put (some d) v) w → Q (.panic c) a w) :
    ∀ (l : List Oper) (k : Nat) (a : Act) (w : World), (∀ j, j < l.length → l[j]? = ops[k + j]?) → k + l.length = ops.size → wpMix P N ops Q xs k l a w → wpD P N ops Q l.length (lst ops.size k) a w
  | [], k, a, w, _, hk, h => by
    refine ⟨?_, h⟩
    have hk' : k = ops.size := by simpa using hk
    apply List.eq_nil_iff_forall_not_mem.2
    intro j hj
    obtain ⟨hun, oj, hoj, -⟩ := mem_ready.1 hj
    have hlt := (Array.getElem?_eq_some_iff.1 hoj).1
    subst hk'
    simp [lst, hlt] at hun
  | o :: l, k, a, w, hl, hk, h => by
    have h0 : ops[k]? = some o := by simpa using (hl 0 (by simp)).symm
    have hklt : k < ops.size := (Array.getElem?_eq_some_iff.1 h0).1
    have hl' : ∀ j, j < l.length → l[j]? = ops[k + 1 + j]? := fun j hj => by have := hl (j + 1) (by simp; omega); simpa [Nat.add_assoc, Nat.add_comm 1 j] using this
    have hk' : k + 1 + l.length = ops.size := by simp only [List.length_cons] at hk; omega
    simp only [mixB, Bool.and_eq_true, List.all_eq_true, List.mem_range] at hB
    have hb := hB.2 k hklt
    rw [wpMix] at h
    by_cases hx : xs.contains k = true
    · rw [if_pos hx] at h hb
      have hr : Region.ready .any ops (lst ops.size k) = [k] := by simpa using hb
      refine ⟨fun h1 => (by rw [hr] at h1; cases h1), fun i hi => ?_⟩
      rw [hr] at hi
      have hik : i = k := by simpa using hi
      subst hik
      rw [lst_set hklt]
      exact wpOp_mono (fun a' w' h' => ⟨h'.1, wpD_of_mix (by simp only [mixB, Bool.and_eq_true, List.all_eq_true, List.mem_range]; exact hB) hQ l (i + 1) a' w' hl' hk' h'.2⟩) (wpOp_of_mid h0 h)
    · rw [if_neg hx] at h hb
      obtain ⟨v, hy, hn⟩ := h
      simp only [Bool.and_eq_true] at hb
      refine wpD_first h0 (Region.noSelect_spec hB.1) (fun c a w => ?_) _ _ _ _ (Region.free_spec h0 hb.2) (by simpa using hb.1) hy ?_
      · cases hd : o.dst with
        | none => exact fun h => h
        | some d => exact hQ c d v a w
      · rw [lst_set hklt]
        exact wpD_of_mix (by simp only [mixB, Bool.and_eq_true, List.all_eq_true, List.mem_range]; exact hB) hQ l (k + 1) _ w hl' hk' hn

structure WM (P : Program) (N : Nat) (ops : Array Oper) (Q : Exit → Act → World → Prop) (xs : List Nat) (k : Nat) (l : List Oper) (a : Act) (w : World) : Prop where
  out : wpMix P N ops Q xs k l a w
theorem WM_nil {xs : List Nat} {k : Nat} {a : Act} {w : World} (h : Q .normal a w) : WM P N ops Q xs k [] a w := ⟨h⟩
theorem WM_no {xs : List Nat} {k : Nat} {o : Oper} {l : List Oper} {a : Act} {w : World} (hx : xs.contains k = false) (hw : Region.wanted o (yielded ops a.tmps) = false) (h : WM P N ops Q xs (k + 1) l (a.put o.dst undef) w) : WM P N ops Q xs k (o :: l) a w := by
  refine ⟨?_⟩
  rw [wpMix, if_neg (by rw [hx]; simp)]
  exact ⟨undef, .inr ⟨hw, rfl⟩, h.out⟩
theorem WM_yes {xs : List Nat} {k : Nat} {o : Oper} {l : List Oper} {a : Act} {w : World} (hx : xs.contains k = false) (hw : Region.wanted o (yielded ops a.tmps) = true)
    (h : ∃ v, (∀ w', Below N w w' → o.quietAt P a (fun w'' => w'' = w') w' v) ∧ WM P N ops Q xs (k + 1) l (a.put o.dst v) w) : WM P N ops Q xs k (o :: l) a w := by
  refine ⟨?_⟩
  rw [wpMix, if_neg (by rw [hx]; simp)]
  obtain ⟨v, h1, h2⟩ := h
  exact ⟨v, .inl ⟨hw, h1⟩, h2.out⟩
theorem WM_x {xs : List Nat} {k : Nat} {o : Oper} {l : List Oper} {a : Act} {w : World} (hx : xs.contains k = true)
    (h : wpList P ops (MidQ (fun a' w' => Below N w w' ∧ WM P N ops Q xs (k + 1) l a' w') Q) [o] a w) : WM P N ops Q xs k (o :: l) a w := by
  refine ⟨?_⟩
  rw [wpMix, if_pos hx]
  have e : (fun a' w' => Below N w w' ∧ WM P N ops Q xs (k + 1) l a' w') = fun a' w' => Below N w w' ∧ wpMix P N ops Q xs (k + 1) l a' w' := by
    funext a' w'
    exact propext ⟨fun h => ⟨h.1, h.2.out⟩, fun h => ⟨h.1, ⟨h.2⟩⟩⟩
  rwa [e] at h

/-- The region, in the text's order. -/
theorem wp_region_mix {id : Nat} {a : Act} {w : World} {l : List Oper} (xs : List Nat) (hm : P.follows .mixedOrders = true) (hB : mixB l.toArray xs = true)
    (hQ : ∀ c d v a w, Q (.panic c) (a.put (some d) v) w → Q (.panic c) a w) (h : ∀ w', Below w.heap.size w w' → WM P w.heap.size l.toArray Q xs 0 l a w') : (Code.region id l.toArray true).wp P Q a w := by
  refine wp_region_any hm (wpAny_of_wpD (N := w.heap.size) _ _ _ _ ?_)
  have := wpD_of_mix (P := P) (N := w.heap.size) hB hQ l 0 a { w with drawn := w.drawn + 1 } (by simp) (by simp) (h _ (Below.refl _ _).drew).out
  rw [lst_zero] at this
  simpa using this
end

section
variable {P : Program} {N : Nat} {l : List Oper} {Q : Exit → Act → World → Prop}

/-- A walk over all orders that matter: what only reads is taken first; all else is parted on. -/
structure WT (P : Program) (N : Nat) (l : List Oper) (Q : Exit → Act → World → Prop) (f : Nat) (listed : Array Bool) (a : Act) (w : World) : Prop where
  out : wpD P N l.toArray Q f listed a w
theorem WT_yes {f : Nat} {listed : Array Bool} {a : Act} {w : World} (i : Nat) {o : Oper} (hi : l[i]? = some o) (hB : (Region.noSelect l.toArray && (Region.ready .any l.toArray listed).contains i && Region.free .any l.toArray listed i) = true)
    (hQ : ∀ c d v a w, Q (.panic c) (a.put (some d) v) w → Q (.panic c) a w) (hw : Region.wanted o (yielded l.toArray a.tmps) = true)
    (h : ∃ v, (∀ w', Below N w w' → o.quietAt P a (fun w'' => w'' = w') w' v) ∧ WT P N l Q f (listed.setIfInBounds i true) (a.put o.dst v) w) : WT P N l Q (f + 1) listed a w := by
  obtain ⟨v, hv, hn⟩ := h
  simp only [Bool.and_eq_true] at hB
  have h0 : l.toArray[i]? = some o := by simpa using hi
  refine ⟨wpD_first h0 (Region.noSelect_spec hB.1.1) (fun c a w => ?_) _ _ _ _ (Region.free_spec h0 hB.2) (by simpa using hB.1.2) (.inl ⟨hw, hv⟩) hn.out⟩
  cases hd : o.dst with
  | none => exact fun h => h
  | some d => exact hQ c d v a w
theorem WT_no {f : Nat} {listed : Array Bool} {a : Act} {w : World} (i : Nat) {o : Oper} (hi : l[i]? = some o) (hB : (Region.noSelect l.toArray && (Region.ready .any l.toArray listed).contains i && Region.free .any l.toArray listed i) = true)
    (hQ : ∀ c d v a w, Q (.panic c) (a.put (some d) v) w → Q (.panic c) a w) (hw : Region.wanted o (yielded l.toArray a.tmps) = false)
    (h : WT P N l Q f (listed.setIfInBounds i true) (a.put o.dst undef) w) : WT P N l Q (f + 1) listed a w := by
  simp only [Bool.and_eq_true] at hB
  have h0 : l.toArray[i]? = some o := by simpa using hi
  refine ⟨wpD_first h0 (Region.noSelect_spec hB.1.1) (fun c a w => ?_) _ _ _ _ (Region.free_spec h0 hB.2) (by simpa using hB.1.2) (.inr ⟨hw, rfl⟩) h.out⟩
  cases hd : o.dst with
  | none => exact fun h => h
  | some d => exact hQ c d undef a w
/-- What is asked of one operation that comes up. -/
def stepT (P : Program) (N : Nat) (l : List Oper) (Q : Exit → Act → World → Prop) (f i : Nat) (listed : Array Bool) (o : Oper) (a : Act) (w : World) : Prop :=
  wpList P l.toArray (MidQ (fun a' w' => Below N w w' ∧ WT P N l Q f (listed.setIfInBounds i true) a' w') Q) [o] a w
theorem stepT.op {f i : Nat} {listed : Array Bool} {o : Oper} {a : Act} {w : World} (hi : l[i]? = some o) (h : stepT P N l Q f i listed o a w) :
    wpOp P l.toArray Q i (fun a' w' => Below N w w' ∧ wpD P N l.toArray Q f (listed.setIfInBounds i true) a' w') a w :=
  wpOp_mono (fun _ _ h' => ⟨h'.1, h'.2.out⟩) (wpOp_of_mid (by simpa using hi) h)
theorem WT_one {f : Nat} {listed : Array Bool} {a : Act} {w : World} (i : Nat) {o : Oper} (hi : l[i]? = some o) (hr : Region.ready .any l.toArray listed = [i]) (h : stepT P N l Q f i listed o a w) : WT P N l Q (f + 1) listed a w := by
  refine ⟨fun h1 => (by rw [hr] at h1; cases h1), fun j hj => ?_⟩
  rw [hr] at hj
  have : j = i := by simpa using hj
  subst this
  exact h.op hi
theorem WT_two {f : Nat} {listed : Array Bool} {a : Act} {w : World} (i j : Nat) {o p : Oper} (hi : l[i]? = some o) (hj : l[j]? = some p) (hr : Region.ready .any l.toArray listed = [i, j]) (h : stepT P N l Q f i listed o a w) (h' : stepT P N l Q f j listed p a w) : WT P N l Q (f + 1) listed a w := by
  refine ⟨fun h1 => (by rw [hr] at h1; cases h1), fun k hk => ?_⟩
  rw [hr] at hk
  simp only [List.mem_cons, List.not_mem_nil, or_false] at hk
  rcases hk with rfl | rfl
  · exact h.op hi
  · exact h'.op hj
theorem WT_done {f : Nat} {listed : Array Bool} {a : Act} {w : World} (hr : Region.ready .any l.toArray listed = []) (h : Q .normal a w) : WT P N l Q f listed a w := by
  cases f with
  | zero => exact ⟨hr, h⟩
  | succ f => exact ⟨fun _ => h, fun i hi => by rw [hr] at hi; cases hi⟩
theorem wp_region_tree {id : Nat} {a : Act} {w : World} (hm : P.follows .mixedOrders = true) (h : ∀ w', Below w.heap.size w w' → WT P w.heap.size l Q l.length (Array.replicate l.length false) a w') : (Code.region id l.toArray true).wp P Q a w := by
  refine wp_region_any hm (wpAny_of_wpD (N := w.heap.size) _ _ _ _ ?_)
  have := (h { w with drawn := w.drawn + 1 } (Below.refl _ _).drew).out
  simpa using this
end
theorem WTq {P : Program} {N : Nat} {l : List Oper} {Q : Exit → Act → World → Prop} {f : Nat} {listed : Array Bool} {a : Act} {w : World} (i : Nat) {o : Oper} (h : ∃ v, (∀ w', Below N w w' → o.quietAt P a (fun w'' => w'' = w') w' v) ∧ WT P N l Q f (listed.setIfInBounds i true) (a.put o.dst v) w) (hi : l[i]? = some o := by rfl) (hB : (Region.noSelect l.toArray && (Region.ready .any l.toArray listed).contains i && Region.free .any l.toArray listed i) = true := by kernel_rfl) (hQ : ∀ c d v a w, Q (.panic c) (a.put (some d) v) w → Q (.panic c) a w := by exact fun _ _ _ _ _ h => h) (hw : Region.wanted o (yielded l.toArray a.tmps) = true := by rfl) : WT P N l Q (f + 1) listed a w := WT_yes i hi hB hQ hw h
end
section
open Go.RowKit

theorem wp_region_treeN {P : Program} {l : List Oper} {Q : Exit → Act → World → Prop} {id : Nat} {a : Act} {w : World} (N : Nat) (hm : P.follows .mixedOrders = true)
    (h : ∀ w', Below w.heap.size w w' → WT P N l Q l.length (Array.replicate l.length false) a w') : (Code.region id l.toArray true).wp P Q a w := by
  refine wp_region_any hm (wpAny_of_wpD (N := N) _ _ _ _ ?_)
  have := (h { w with drawn := w.drawn + 1 } (Below.refl _ _).drew).out
  simpa using this
end
end Go.Proofs.YtjfedpblkejmkaaGreat
