/-
  Texts of this claim, in their build order: Y6 OP2 Lib12 Lib14 OA1.
-/
import Derived.Test.YtbpcapcgbnbknaaGreatOne18
import Derived.Test.YtbpcapcgbnbknaaGreatOne5
import Derived.Test.YtbpcapcgbnbknaaGreatOne7
import Derived.Lib.AppendZerosOnto
import Derived.Test.YtbpcapcgbnbknaaGreatOne8
import Derived.Test.YtbpcapcgbnbknaaGreatOne12
import Derived.Test.YtbpcapcgbnbknaaGreatOne4
import Derived.Outline
import Derived.Test.YtbpcapcgbnbknaaGreatOne0

namespace Go.Proofs.YtbpcapcgbnbknaaGreat
section
open Go.RowKit

def cmpQ (p q : Int × Int) : Int := (p.1 * q.2 - q.1 * p.2).sign
theorem dg_fr1 {n m : Int} {k : Nat} (h : (dg n).length ≤ k) : (dg (fr n m).1).length ≤ k := dg_le (fr_bd1 (Nat.le_refl _)) h
theorem dg_fr2 {n m : Int} {k : Nat} (h : (dg m).length ≤ k) : (dg (fr n m).2).length ≤ k := dg_le (fr_bd2 (Nat.le_refl _)) h
end
section
open Go.RowKit

theorem cmp_fr {N D N' D' : Int} (h : 0 < D) (h' : 0 < D') : cmpQ (fr N D) (fr N' D') = (N * D' - N' * D).sign := by
  unfold cmpQ
  have a1 := fr_mul (n := N) h
  have a2 := fr_pos (n := N) h
  have b1 := fr_mul (n := N') h'
  have b2 := fr_pos (n := N') h'
  generalize fr N D = f at *
  generalize fr N' D' = g at *
  have e : (f.1 * g.2 - g.1 * f.2) * (D * D') = (N * D' - N' * D) * (f.2 * g.2) := by grind
  have s := congrArg Int.sign e
  rw [Int.sign_mul, Int.sign_mul (N * D' - N' * D), Int.sign_eq_one_of_pos (Int.mul_pos h h'), Int.sign_eq_one_of_pos (Int.mul_pos a2 b2), Int.mul_one, Int.mul_one] at s
  exact s
theorem cmp_one {N D : Int} (n : Int) (h : 0 < D) : cmpQ (fr N D) (n, 1) = (N - n * D).sign := by
  have := cmp_fr (N := N) (N' := n) h (show (0 : Int) < 1 by decide)
  rw [fr_id (show Int.gcd n 1 = 1 by simp), Int.mul_one] at this
  exact this
/-- Is a quotient less than another one? -/
def lessQ (a b : Int × Int) : Bool := decide (a.1 * b.2 < b.1 * a.2)
theorem cmp_ge {N D : Int} (n : Int) (h : 0 < D) : decide (0 ≤ cmpQ (fr N D) (n, 1)) = !lessQ (N, D) (n, 1) := by
  rw [cmp_one n h]
  unfold lessQ
  dsimp only
  rw [Int.mul_one]
  by_cases h1 : N < n * D
  · rw [decide_eq_true h1, Int.sign_eq_neg_one_of_neg (by omega)]; rfl
  · rw [decide_eq_false h1]
    have : 0 ≤ (N - n * D).sign := by
      rcases Int.lt_or_eq_of_le (show 0 ≤ N - n * D by omega) with h2 | h2
      · rw [Int.sign_eq_one_of_pos h2]; decide
      · rw [← h2]; decide
    exact decide_eq_true this
theorem cmp_lt {N D : Int} (n : Int) (h : 0 < D) : decide (cmpQ (fr N D) (n, 1) < 0) = lessQ (N, D) (n, 1) := by
  have := cmp_ge (N := N) n h
  rw [← Bool.not_inj_iff, ← this]
  by_cases h1 : 0 ≤ cmpQ (fr N D) (n, 1)
  · rw [decide_eq_true h1, decide_eq_false (by omega)]; rfl
  · rw [decide_eq_false h1, decide_eq_true (by omega)]; rfl

/-- A plant: its points, what its pump gives, when it starts and stops. -/
structure Plt where
  pts : List (Int × Int)
  pump : Int
  on : Int
  off : Int
structure PltOk (p : Plt) : Prop where
  pts : PtsOk p.pts
  pump : 0 ≤ p.pump ∧ p.pump ≤ 50
  on : 0 ≤ p.on ∧ p.on ≤ 1000
  off : 0 ≤ p.off ∧ p.off ≤ 1000
  ord : p.on < p.off
/-- The volume after a demand. -/
def vlmA (p : Plt) (s : Int × Bool) (d : Int) : Int := min ((if s.2 then s.1 + p.pump else s.1) - d) (capV p.pts)
/-- Whether the pump runs at a volume. -/
def pmpA (p : Plt) (r : Bool) (v : Int) : Bool := if lessQ (p.on, 1) (prQ p.pts v) = false then true else if lessQ (prQ p.pts v) (p.off, 1) = false then false else r
/-- The next state, of the program. -/
def nxtA (p : Plt) (s : Int × Bool) (d : Int) : Option (Int × Bool) := if vlmA p s d < 0 then none else some (vlmA p s d, pmpA p s.2 (vlmA p s d))
theorem cap_pos {p : Plt} (h : PltOk p) : 0 < capV p.pts := by
  have h2 := h.pts.two
  have := (h.pts.mono (i := 0) (d := p.pts.length - 1) (by omega)).1
  rw [h.pts.v0, Nat.zero_add] at this
  unfold capV
  omega
theorem cap_le {p : Plt} (h : PltOk p) : capV p.pts ≤ 200 := (h.pts.vol (p.pts.length - 1) (by have := h.pts.two; omega)).2
/-- A state of a plant. -/
def StOk (p : Plt) (s : Int × Bool) : Prop := 0 ≤ s.1 ∧ s.1 ≤ capV p.pts
theorem nxtA_ok {p : Plt} {s t : Int × Bool} {d : Int} (ht : nxtA p s d = some t) : StOk p t := by
  unfold nxtA at ht
  split at ht
  · cases ht
  · rename_i h0
    cases ht
    exact ⟨by dsimp only; omega, by dsimp only; unfold vlmA; omega⟩
end
section
open Go.RowKit

/-- A row of its own, from block n0 on: its cells, whole. -/
def Own (W : World) (n0 : Nat) (a : Option Addr) (m : Nat) (f : Nat → Value) : Prop :=
  (∀ p, a = some p → n0 ≤ p.block ∧ p.block < W.heap.size) ∧ (m = 0 ∨ ∃ g cur, a = some ⟨g, 0, none⟩ ∧ Blk W g cur ∧ ∀ i, i < m → cur[i]? = some (f i))
theorem Own.reads {W : World} {n0 : Nat} {a : Option Addr} {m : Nat} {f : Nat → Value} (h : Own W n0 a m f) : Reads W a m f := by
  rcases h.2 with h | ⟨g, cur, e, hb, hc⟩
  · exact .inl h
  · exact .inr ⟨g, 0, e, hb.1, fun i hi => by rw [Nat.zero_add, hb.2.1 i, hc i hi]⟩
theorem Own.to {W W' : World} {n0 : Nat} {a : Option Addr} {m : Nat} {f : Nat → Value} (h : Own W n0 a m f) (hb : Below W.heap.size W W') : Own W' n0 a m f := by
  refine ⟨fun p hp => ⟨(h.1 p hp).1, Nat.lt_of_lt_of_le (h.1 p hp).2 hb.size⟩, ?_⟩
  rcases h.2 with h | ⟨g, cur, e, hk, hc⟩
  · exact .inl h
  · exact .inr ⟨g, cur, e, hk.to hb, hc⟩
theorem Own.other {W : World} {n0 : Nat} {a : Option Addr} {m : Nat} {f : Nat → Value} (h : Own W n0 a m f) (p : Addr) (v : Value) (hp : p.block < n0) : Own (W.setCell p v) n0 a m f := by
  refine ⟨fun q hq => ⟨(h.1 q hq).1, by simpa [World.setCell] using (h.1 q hq).2⟩, ?_⟩
  rcases h.2 with h0 | ⟨g, cur, e, hk, hc⟩
  · exact .inl h0
  · refine .inr ⟨g, cur, e, hk.other (fun e' => ?_) v, hc⟩
    have := (h.1 _ e).1
    dsimp only at this
    omega
theorem Own.at {W : World} {n0 : Nat} {a : Option Addr} {m : Nat} {f : Nat → Value} (h : Own W n0 a m f) (hm : 0 < m) : ∃ g cur, a = some ⟨g, 0, none⟩ ∧ n0 ≤ g ∧ Blk W g cur ∧ ∀ i, i < m → cur[i]? = some (f i) := by
  rcases h.2 with h0 | ⟨g, cur, e, hk, hc⟩
  · omega
  · exact ⟨g, cur, e, (h.1 _ e).1, hk, hc⟩
theorem Blk.row {W : World} {g : Nat} {cur : Array Value} {m : Nat} {f : Nat → Value} (h : Blk W g cur) (hc : ∀ i, i < m → cur[i]? = some (f i)) : Reads W (some ⟨g, 0, none⟩) m f :=
  .inr ⟨g, 0, rfl, h.1, fun i hi => by rw [Nat.zero_add, h.2.1 i, hc i hi]⟩
theorem Own.of_row {W : World} {n₀ : Nat} {e : TypeId} {size : Nat} {v : Value} {n : Nat} {xs : List Value} {f : Nat → Value} (h : W.ownsRow n₀ e size v n xs) (hf : ∀ i, i < n * size → xs[i]? = some (f i)) :
    ∃ a cap, v = .slice a n cap ∧ n ≤ cap ∧ Own W n₀ a (n * size) f := by
  rcases h.2 with ⟨rfl, h0⟩ | ⟨g, cap, cur, rfl, hb, hg, hn, hc, hs, ht⟩
  · exact ⟨none, 0, by rw [h0], by omega, ⟨fun p hp => (by cases hp), .inl (by rw [h0, Nat.zero_mul])⟩⟩
  · have hlt : g < W.heap.size := (Array.getElem?_eq_some_iff.1 hg).1
    refine ⟨_, cap, rfl, hn, ⟨fun p hp => (by cases hp; exact ⟨hb, hlt⟩), .inr ⟨g, cur, rfl, ⟨hlt, fun o => (by unfold World.cell?; simp only [hg]; rfl), fun o => (by unfold World.frozen?; simp only [hg]; simp)⟩, fun i hi => ?_⟩⟩⟩
    rw [← hf i hi, ← ht, List.getElem?_take, if_pos hi, Array.getElem?_toList]
end
section
open Go.RowKit

/-- The cells of records. -/
def recs (s : Nat) (f : Nat → Nat → Value) (i : Nat) : Value := f (i / s) (i % s)
theorem recs_at {s : Nat} {f : Nat → Nat → Value} {k j : Nat} (h : j < s) : recs s f (k * s + j) = f k j := by
  unfold recs
  rw [Nat.mul_comm k s, Nat.mul_add_div (by omega), Nat.div_eq_of_lt h, Nat.mul_add_mod, Nat.mod_eq_of_lt h, Nat.add_zero]
def rcells (s : Nat) (f : Nat → Nat → Value) (n : Nat) : List Value := (List.range (n * s)).map (recs s f)
theorem rcells_len (s : Nat) (f : Nat → Nat → Value) (n : Nat) : (rcells s f n).length = n * s := by simp [rcells]
theorem rcells_get {s : Nat} {f : Nat → Nat → Value} {n i : Nat} (h : i < n * s) : (rcells s f n)[i]? = some (recs s f i) := by
  unfold rcells; rw [List.getElem?_map, List.getElem?_range h]; rfl
theorem rcells_ext {s : Nat} {f : Nat → Nat → Value} {n : Nat} {l : List Value} (hl : l.length = n * s) (h : ∀ k j, k < n → j < s → l[k * s + j]? = some (f k j)) : l = rcells s f n := by
  refine List.ext_getElem? fun i => ?_
  by_cases hi : i < n * s
  · rw [rcells_get hi]
    have hs : 0 < s := by rcases Nat.eq_zero_or_pos s with e | e; · rw [e] at hi; omega
                          · exact e
    have h1 : i / s < n := Nat.div_lt_of_lt_mul (by rw [Nat.mul_comm]; exact hi)
    have := h (i / s) (i % s) h1 (Nat.mod_lt _ hs)
    rw [Nat.div_add_mod' i s] at this
    exact this
  · rw [List.getElem?_eq_none (by omega), List.getElem?_eq_none (by rw [rcells_len]; omega)]
/-- One record more. -/
theorem rcells_snoc (s : Nat) (f : Nat → Nat → Value) (n : Nat) {l : List Value} (hl : l.length = s) (h : ∀ j, j < s → l[j]? = some (f n j)) : rcells s f n ++ l = rcells s f (n + 1) := by
  refine rcells_ext (by rw [List.length_append, rcells_len, hl, Nat.succ_mul]) fun k j hk hj => ?_
  by_cases hkn : k < n
  · have hlt : k * s + j < n * s := by
      have : (k + 1) * s ≤ n * s := Nat.mul_le_mul_right _ hkn
      rw [Nat.succ_mul] at this; omega
    rw [List.getElem?_append_left (by rw [rcells_len]; exact hlt), rcells_get hlt, recs_at hj]
  · obtain rfl : k = n := by omega
    rw [List.getElem?_append_right (by rw [rcells_len]; omega), rcells_len, show k * s + j - k * s = j by omega]
    exact h j hj
end
section
set_option maxHeartbeats 1600000
open Go.RowKit

theorem oWithin_any (n lo hi : Int) (w : World) :
    Calls Tryz.prog 123 #[.int .i64 n, .int .i64 lo, .int .i64 hi] w fun e w' => e = .returned (.bool (decide (lo ≤ n) && decide (n ≤ hi))) ∧ w = w' := by
  go_enter Tryz.func123, Tryz.ntmps123
  go_wp2
  all_goals (go_ret; exact ⟨ret_bool (by simp; omega), rfl⟩)

theorem oUnless_any (b : Bool) (k : Int) (w : World) :
    Calls Tryz.prog 80 #[.bool b, .int .i64 k] w fun e w' => e = .returned (.int .i64 (unl b k)) ∧ w = w' := by
  go_enter Tryz.func80, Tryz.ntmps80
  cases b
  all_goals (go_wp2; go_ret; exact ⟨rfl, rfl⟩)

theorem oFirst_any (es : List Int) (b off cap : Nat) (w : World) (hl : es.length ≤ 1000)
    (hc : ∀ i, i < es.length → w.cell? ⟨b, off + i, none⟩ = some (.int .i64 (gi es i))) :
    Calls Tryz.prog 79 #[.slice (some ⟨b, off, none⟩) es.length cap] w fun e w' => e = .returned (.int .i64 (firstE es)) ∧ w = w' := by
  go_enter Tryz.func79, Tryz.ntmps79
  have HC := zH hc
  clear hc
  go_wp2_with fail
  go_loop [4, 7] (fun _ i => ∃ k : Nat, k ≤ es.length ∧ i = .int .i64 k ∧ Hid (firstE es = firstE (es.drop k))) (fun _ i => es.length - (intOf i).toNat)
  case atStart => exact ⟨0, Nat.zero_le _, rfl, rfl⟩
  case round =>
    obtain ⟨k, hk, rfl, hr⟩ := hrel
    by_cases hlt : k < es.length
    · have h1 := HC.out k hlt
      have hd := zH (firstE_drop es k hlt)
      by_cases hz : gi es k = 0
      · have hz' : (gi es k != 0) = false := by simpa using hz
        have HZ := zH hz
        clear hz
        go_wp2
        go_round
        case rel => exact ⟨k + 1, by omega, by go_num, hr.out.trans (by rw [hd.out, if_pos HZ.out])⟩
        case measure => simp [intOf]; omega
      · have hz' : (gi es k != 0) = true := by simpa using hz
        have HZ := zH hz
        clear hz
        go_wp2
        go_ret
        exact ⟨ret_int (by rw [hr.out, hd.out, if_neg HZ.out]), rfl⟩
    · have : k = es.length := by omega
      subst this
      go_wp2
      go_ret
      exact ⟨ret_int (by rw [hr.out, List.drop_length]; rfl), rfl⟩

theorem oFirst2_new (a b : Int) (w : World) (B : Nat) (hB : w.heap.size = B) :
    Calls Tryz.prog 79 #[.slice (some ⟨B, 0, none⟩) 2 2] (w.alloc (.cells #[.int .i64 a, .int .i64 b] 29)) fun e w' => e = .returned (.int .i64 (firstE [a, b])) ∧ w.alloc (.cells #[.int .i64 a, .int .i64 b] 29) = w' :=
  oFirst_any [a, b] _ 0 2 _ (by simp) (fun i hi => by
    match i, hi with
    | 0, _ => subst hB; simp [World.cell?_alloc_new, gi]
    | 1, _ => subst hB; simp [World.cell?_alloc_new, gi])

def wthn (n lo hi : Int) : Bool := decide (lo ≤ n) && decide (n ≤ hi)
theorem isPressure_any (n : Int) (w : World) : Calls Tryz.prog 128 #[.int .i64 n] w fun e w' => e = .returned (.bool (wthn n 0 1000)) ∧ w = w' := by
  go_enter Tryz.func128, Tryz.ntmps128
  go_wp2_with (go_at_call 123; refine (oWithin_any _ _ _ _).mono ?_; rintro e w' ⟨rfl, rfl⟩)
  go_ret
  exact ⟨rfl, rfl⟩
theorem isFlow_any (n : Int) (w : World) : Calls Tryz.prog 82 #[.int .i64 n] w fun e w' => e = .returned (.bool (wthn n 0 50)) ∧ w = w' := by
  go_enter Tryz.func82, Tryz.ntmps82
  go_wp2_with (go_at_call 123; refine (oWithin_any _ _ _ _).mono ?_; rintro e w' ⟨rfl, rfl⟩)
  go_ret
  exact ⟨rfl, rfl⟩
theorem isVolume_any (n : Int) (w : World) : Calls Tryz.prog 189 #[.int .i64 n] w fun e w' => e = .returned (.bool (wthn n 0 200)) ∧ w = w' := by
  go_enter Tryz.func189, Tryz.ntmps189
  go_wp2_with (go_at_call 123; refine (oWithin_any _ _ _ _).mono ?_; rintro e w' ⟨rfl, rfl⟩)
  go_ret
  exact ⟨rfl, rfl⟩
/-- The error of a number of points. -/
def fewE (n : Int) : Int := firstE [unl (decide (2 ≤ n)) 10, unl (decide (n ≤ 8)) 8]
theorem oFew_any (n : Int) (w : World) : Calls Tryz.prog 186 #[.int .i64 n] w fun e w' => e = .returned (.int .i64 (fewE n)) ∧ Below w.heap.size w w' := by
  have HF : Hid (firstE [unl (decide (2 ≤ n)) 10, unl (decide (n ≤ 8)) 8] = fewE n) := zH rfl
  go_enter Tryz.func186, Tryz.ntmps186
  go_wp2_with (first | (go_at_call 80; refine (oUnless_any _ _ _).mono ?_; rintro e w' ⟨rfl, rfl⟩) | (go_at_call 79; refine (oFirst2_new _ _ _ _ rfl).mono ?_; rintro e w' ⟨rfl, rfl⟩; rw [HF.out]))
  go_ret
  exact ⟨rfl, bAlloc (bSelf w) _⟩

/-- Numbers whose products fit. -/
def Nin (n : Int) : Prop := -1000000000 ≤ n ∧ n ≤ 1000000000
theorem Nin.mul {a b : Int} (ha : Nin a) (hb : Nin b) : -1000000000000000000 ≤ a * b ∧ a * b ≤ 1000000000000000000 :=
  mul_bd ha.1 ha.2 hb.1 hb.2
theorem oLess_any (a b : Int × Int) (w : World) (h1 : Nin a.1) (h2 : Nin a.2) (h3 : Nin b.1) (h4 : Nin b.2) :
    Calls Tryz.prog 94 #[.agg #[.int .i64 a.1, .int .i64 a.2], .agg #[.int .i64 b.1, .int .i64 b.2]] w fun e w' => e = .returned (.bool (lessQ a b)) ∧ Below w.heap.size w w' := by
  obtain ⟨m1, m2⟩ := h1.mul h4
  obtain ⟨m3, m4⟩ := h3.mul h2
  obtain ⟨a1, a2⟩ := a
  obtain ⟨b1, b2⟩ := b
  dsimp only at m1 m2 m3 m4 ⊢
  clear h1 h2 h3 h4
  go_enter Tryz.func94, Tryz.ntmps94
  go_wp2_with fail
  go_ret
  exact ⟨rfl, bAlloc (bAlloc (bSelf w) _) _⟩
theorem oBelow_any (a : Int × Int) (n : Int) (w : World) (h1 : Nin a.1) (h2 : Nin a.2) (h3 : Nin n) :
    Calls Tryz.prog 125 #[.agg #[.int .i64 a.1, .int .i64 a.2], .int .i64 n] w fun e w' => e = .returned (.bool (lessQ a (n, 1))) ∧ Below w.heap.size w w' := by
  have HL := zH (fun W => oLess_any a (n, 1) W h1 h2 h3 (show Nin 1 from ⟨by decide, by decide⟩))
  obtain ⟨a1, a2⟩ := a
  dsimp only at HL ⊢
  clear h1 h2 h3
  go_enter Tryz.func125, Tryz.ntmps125
  go_wp2_with fail
  refine (HL.out _).mono ?_
  rintro e w1 ⟨rfl, hb⟩
  go_wp2_with fail
  go_ret
  exact ⟨rfl, bThen (bAlloc (bSelf w) _) hb⟩

/-- A quotient whose parts are not below 0. -/
structure QOk (a : Int × Int) : Prop where
  n0 : 0 ≤ a.1
  n1 : a.1 ≤ 1000000000
  d0 : 1 ≤ a.2
  d1 : a.2 ≤ 1000000000
theorem gcd_step' {x y : Int} : Int.gcd y (x % y) = Int.gcd x y := by
  have h := Int.gcd_add_mul_left_right y (x % y) (x / y)
  rw [show x % y + y * (x / y) = x by have := Int.mul_ediv_add_emod x y; omega] at h
  rw [← h, Int.gcd_comm]

set_option maxRecDepth 100000 in
theorem oFrac_any (a : Int × Int) (w : World) (h : QOk a) :
    Calls Tryz.prog 95 #[.agg #[.int .i64 a.1, .int .i64 a.2]] w fun e w' => e = .returned (.agg #[.int .i64 (fr a.1 a.2).1, .int .i64 (fr a.1 a.2).2]) ∧ Below w.heap.size w w' := by
  obtain ⟨n0, n1, d0, d1⟩ := h
  obtain ⟨n, d⟩ := a
  dsimp only at n0 n1 d0 d1 ⊢
  have h1 := @fr_bd1 n d 1000000000 (by omega)
  have h2 := @fr_bd2 n d 1000000000 (by omega)
  have hg0 : 0 < Int.gcd n d := Nat.pos_of_ne_zero (fun h => by have := (Int.gcd_eq_zero_iff.1 h).2; omega)
  have h3 : (fr n d).1 = n / (Int.gcd n d : Nat) := by rw [fr_ediv]
  have h4 : (fr n d).2 = d / (Int.gcd n d : Nat) := by rw [fr_ediv]
  obtain ⟨f1, hf1⟩ : ∃ f, (fr n d).1 = f := ⟨_, rfl⟩
  obtain ⟨f2, hf2⟩ : ∃ f, (fr n d).2 = f := ⟨_, rfl⟩
  rw [hf1] at h1 h3
  rw [hf2] at h2 h4
  rw [hf1, hf2]
  have H3 := zH h3
  have H4 := zH h4
  clear h3 h4 hf1 hf2
  have hr0 := Int.emod_nonneg n (show d ≠ 0 by omega)
  have hr1 := Int.emod_lt_of_pos n (show 0 < d by omega)
  have hd0 : (d == 0) = false := by rw [beq_eq_false_iff_ne]; omega
  have hd2 : ¬ d = 0 := by omega
  go_enter Tryz.func95, Tryz.ntmps95
  go_wp2_with fail
  obtain ⟨W, hW⟩ : ∃ W, (w.alloc (.cells #[.int .i64 n, .int .i64 d] 167)).alloc (.cells #[.int .i64 0, .int .i64 0] 77) = W := ⟨_, rfl⟩
  rw [hW]
  have K0 : Hid (Blk W w.heap.size #[.int .i64 n, .int .i64 d]) := by subst hW; exact zH ((Blk.new _ _ _).alloc _)
  have K1 : Hid (Blk W (w.heap.size + 1) #[.int .i64 0, .int .i64 0]) := by subst hW; exact zH (Blk.newAt _ _ _ (by simp))
  have HB : Hid (Below w.heap.size w W) := by subst hW; exact zH (bAlloc (bAlloc (bSelf w) _) _)
  clear hW
  refine wp_region_quiet_all (fun w' => Below (World.heap W).size (W) w') (by kernel_rfl) (by kernel_rfl) (Below.refl _ _).drew ?_
  refine WQ.out ?_
  repeat (first | (refine WQ_no (by rfl) ?_; (simp only [Act.put, zzT, zzO, zzS])) | (refine WQ_yes (by rfl) ?_; apply Exists.intro; refine ⟨fun w1 hb1 => ?_, ?_⟩; (focus (((obtain ⟨-, k0, -⟩ := K0.out.to hb1); have hb1 := zH hb1; go_simp); (try (go_bits; try go_simp)); (try (rw [if_pos (by omega)]; try go_simp)); (first | done | (with_reducible rfl) | exact rfl))); (simp only [Act.put, zzT, zzO, zzS])))
  refine WQ_nil ?_
  intro w1 hb1
  replace K0 := zH (K0.out.to hb1)
  replace K1 := zH (K1.out.to hb1)
  replace HB := zH (bThen HB.out hb1)
  clear hb1
  go_wp2_with fail
  go_loopw [3, 4] (fun p q wr => ∃ x y : Int, p = .int .i64 x ∧ q = .int .i64 y ∧ Hid (Int.gcd x y = Int.gcd n d) ∧ 0 < x ∧ x ≤ 1000000000 ∧ 0 ≤ y ∧ y ≤ 1000000000 ∧ Hid (Blk wr w.heap.size #[.int .i64 n, .int .i64 d]) ∧ Hid (Blk wr (w.heap.size + 1) #[.int .i64 0, .int .i64 0]) ∧ Hid (Below w.heap.size w wr)) (fun _ q _ => (intOf q).toNat)
  case atStart => exact ⟨d, n % d, rfl, rfl, zH gcd_step', by omega, by omega, by omega, by omega, K0, K1, HB⟩
  case round =>
    obtain ⟨x, y, rfl, rfl, hg, x0, x1, y0, y1, K0, K1, HB⟩ := hrel
    by_cases h0 : y = 0
    · subst h0
      have hgx : (Int.gcd n d : Nat) = x := by have := hg.out; rw [Int.gcd_zero_right] at this; omega
      rw [hgx] at H3 H4
      have hx0 : (x == 0) = false := by rw [beq_eq_false_iff_ne]; omega
      have hx2 : ¬ x = 0 := by omega
      clear hgx
      go_wp2_with fail
      refine wp_region_quiet_tail 9 (fun w' => Below (World.heap wr).size (wr) w') (by kernel_rfl) (by kernel_rfl) (Below.refl _ _).drew ?_
      simp only [List.take_succ_cons, List.take_zero, List.drop_succ_cons, List.drop_zero]
      refine WQ.out ?_
      repeat (first | (refine WQ_no (by rfl) ?_; (simp only [Act.put, zzT, zzO, zzS])) | (refine WQ_yes (by rfl) ?_; apply Exists.intro; refine ⟨fun w1 hb1 => ?_, ?_⟩; (focus (((obtain ⟨-, k0, -⟩ := K0.out.to hb1; have e3 := H3.out.symm; have e4 := H4.out.symm); have hb1 := zH hb1; go_simp); (try (go_bits; try go_simp)); (try (rw [if_pos (by omega)]; try go_simp)); (first | done | (with_reducible rfl) | exact rfl))); (simp only [Act.put, zzT, zzO, zzS])))
      refine WQ_nil ?_
      intro w1 hb1
      replace K1 := zH (K1.out.to hb1)
      replace HB := zH (bThen HB.out hb1)
      clear hb1
      obtain ⟨-, k0, f0⟩ := K1.out
      go_wp2_with fail
      have F := (K1.out.set 0 (.int .i64 f1)).set 1 (.int .i64 f2)
      have F0 := F.2.1 0
      have F1 := F.2.1 1
      clear F k0 f0
      refine bodyPost_ret (v := .agg #[.int .i64 f1, .int .i64 f2]) ?_ rfl ⟨rfl, ?_⟩
      · simp [results, Tryz.results95, go_sem, F0, F1]
      · exact (HB.out.setCell (p := ⟨w.heap.size + 1, 0, none⟩) (Nat.le_succ _) _).setCell (p := ⟨w.heap.size + 1, 1, none⟩) (Nat.le_succ _) _
    · have h0' : (y == 0) = false := by simpa using h0
      have hm0 := Int.emod_nonneg x h0
      have hm1 := Int.emod_lt_of_pos x (show 0 < y by omega)
      go_wp2_with fail
      refine wp_region_quiet_all (fun w' => Below (World.heap wr).size (wr) w') (by kernel_rfl) (by kernel_rfl) (Below.refl _ _).drew ?_
      refine WQ.out ?_
      repeat (first | (refine WQ_no (by rfl) ?_; (simp only [Act.put, zzT, zzO, zzS])) | (refine WQ_yes (by rfl) ?_; apply Exists.intro; refine ⟨fun w1 hb1 => ?_, ?_⟩; (focus ((have hb1 := zH hb1; go_simp); (try (go_bits; try go_simp)); (try (rw [if_pos (by omega)]; try go_simp)); (first | done | (with_reducible rfl) | exact rfl))); (simp only [Act.put, zzT, zzO, zzS])))
      refine WQ_nil ?_
      intro w1 hb1
      replace K0 := zH (K0.out.to hb1)
      replace K1 := zH (K1.out.to hb1)
      replace HB := zH (bThen HB.out hb1)
      clear hb1
      go_wp2_with fail
      go_roundw
      case rel => exact ⟨y, x % y, rfl, rfl, zH (gcd_step'.trans hg.out), by omega, by omega, by omega, by omega, K0, K1, HB⟩
      case measure => simp [intOf]; omega
end
end Go.Proofs.YtbpcapcgbnbknaaGreat
