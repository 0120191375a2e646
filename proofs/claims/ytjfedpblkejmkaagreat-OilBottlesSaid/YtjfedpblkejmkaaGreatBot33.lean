/-
  Texts of this claim, in their build order: OP6 OM11 OM12 OM18 Lib18.
-/
import Derived.Test.YtjfedpblkejmkaaGreatBot17
import Derived.Test.YtjfedpblkejmkaaGreatBot26
import Derived.Test.YtjfedpblkejmkaaGreatBot5
import Derived.Test.YtjfedpblkejmkaaGreatBot1
import Derived.Test.YtjfedpblkejmkaaGreatBot0

namespace Go.Proofs.YtjfedpblkejmkaaGreat
section
open Go.RowKit

/-- The program's answer, from the square with the least and the greatest mass. -/
def clrA (lo hi : Int × Int) (bl bh : Int) : Int := if (lessQ hi (bl, 1) || lessQ (bh, 1) lo) = true then 2 else if (!lessQ lo (bl, 1) && !lessQ (bh, 1) hi) = true then 0 else 1
end
section
open Go.RowKit
attribute [local go_sem] Oper.semAt_some

/-- Numbers of a column. -/
def colB (l : List Int) : Bool := l.all (fun x => wthn x 1 10000)
abbrev ixN (l : List Int) (j : Nat) : Bool := !wthn (gi l j) 1 10000
def nonI (l : List Int) : Nat := ixF (ixN l) 0 l.length
theorem non_col {l : List Int} : decide (nonI l < l.length) = !colB l := by
  have key : ∀ (m k : Nat), k + m = l.length → decide (ixF (ixN l) k m < l.length) = !(l.drop k).all (fun x => wthn x 1 10000) := by
    intro m
    induction m with
    | zero =>
      intro k h
      rw [List.drop_eq_nil_of_le (by omega)]
      unfold ixF
      rw [decide_eq_false (by omega)]; rfl
    | succ m ih =>
      intro k h
      have hk : k < l.length := by omega
      have h2 := ih (k + 1) (by omega)
      rw [gi_drop l k hk, List.all_cons]
      unfold ixF
      by_cases hz : ixN l k = true
      · rw [if_pos hz, decide_eq_true hk]
        have : wthn (gi l k) 1 10000 = false := by simpa using hz
        rw [this]; rfl
      · rw [if_neg hz, h2]
        have : wthn (gi l k) 1 10000 = true := by simpa using hz
        rw [this]; rfl
  have := key l.length 0 (by omega)
  rw [List.drop_zero] at this
  exact this

theorem col1_any (x : Int) (w : World) :
    Calls Tryz.prog 152 #[.int .i64 x] w fun e w' => e = .returned (.bool (!wthn x 1 10000)) ∧ w = w' := by
  go_enter Tryz.func152, Tryz.ntmps152
  go_wp2_with (go_at_call 99; refine (oWithin_any _ _ _ _).mono ?_; rintro e w' ⟨rfl, rfl⟩)
  go_ret
  have h : (!decide (1 ≤ x) || !decide (x ≤ 10000)) = !wthn x 1 10000 := by unfold wthn; rw [Bool.not_and]
  exact ⟨by rw [← h]; rfl, rfl⟩

set_option maxHeartbeats 800000 in
set_option maxRecDepth 100000 in
theorem idxN_any (l : List Int) (a : Option Addr) (cap : Nat) (w : World) (hlen : l.length ≤ 100000) (hr : Reads w a l.length (ints l)) :
    Calls Tryz.prog 173 #[.slice a l.length cap, .func (.func 152) #[] #[]] w fun e w' => e = .returned (.int .i64 (idxI (nonI l) l.length)) ∧ w = w' := by
  have HR := zH hr
  have HP : Hid (nonI l = ixF (ixN l) 0 l.length) := zH rfl
  obtain ⟨pi, hpi⟩ : ∃ i, nonI l = i := ⟨_, rfl⟩
  rw [hpi] at HP ⊢
  clear hr hpi
  go_enter Tryz.func173, Tryz.ntmps173
  go_wp2_with fail
  go_loopw [5, 8] (fun _ i wr => ∃ k : Nat, k ≤ l.length ∧ i = .int .i64 k ∧ Hid (pi = ixF (ixN l) k (l.length - k)) ∧ w = wr) (fun _ i _ => l.length - (intOf i).toNat)
  case atStart => exact ⟨0, Nat.zero_le _, rfl, HP, rfl⟩
  case round =>
    obtain ⟨k, hk, rfl, hi, rfl⟩ := hrel
    by_cases hlt : k < l.length
    · obtain ⟨b, off, rfl, hb, hc⟩ := HR.out.at (k := k) (by omega)
      have c0 : w.cell? ⟨b, off + k, none⟩ = some (.int .i64 (gi l k)) := hc k (by omega)
      clear hc
      cases hz : ixN l k
      · have HS := zH (ixF_step hlt hz)
        have HZ : Hid ((!wthn (gi l k) 1 10000) = false) := zH hz
        clear hz
        go_wp2_with (go_at_call 152; refine (col1_any _ _).mono ?_; rintro e w' ⟨rfl, rfl⟩; rw [HZ.out])
        go_roundw
        case rel => exact ⟨k + 1, by omega, by go_num, zH (hi.out.trans HS.out), trivial⟩
        case measure => simp [intOf]; omega
      · have HS := zH (ixF_stop hlt hz)
        have HZ : Hid ((!wthn (gi l k) 1 10000) = true) := zH hz
        clear hz
        go_wp2_with (go_at_call 152; refine (col1_any _ _).mono ?_; rintro e w' ⟨rfl, rfl⟩; rw [HZ.out])
        go_ret
        exact ⟨ret_int (by rw [hi.out, HS.out]; unfold idxI; rw [if_pos hlt]), rfl⟩
    · have : k = l.length := by omega
      subst this
      go_wp2
      go_ret
      exact ⟨ret_int (by rw [hi.out, Nat.sub_self]; unfold idxI ixF; rw [if_neg (by omega)]), rfl⟩

theorem conN_any (l : List Int) (a : Option Addr) (cap : Nat) (w : World) (hlen : l.length ≤ 100000) (hr : Reads w a l.length (ints l)) :
    Calls Tryz.prog 151 #[.slice a l.length cap, .func (.func 152) #[] #[]] w fun e w' => e = .returned (.bool (!colB l)) ∧ w = w' := by
  have HI := zH (idxN_any l a cap w hlen hr)
  have HC : Hid (decide (0 ≤ idxI (nonI l) l.length) = !colB l) := zH (by
    rw [← non_col]
    unfold idxI
    by_cases h : nonI l < l.length
    · rw [if_pos h, decide_eq_true h, decide_eq_true (by omega)]
    · rw [if_neg h, decide_eq_false h]; rfl)
  obtain ⟨i, hi⟩ : ∃ i, idxI (nonI l) l.length = i := ⟨_, rfl⟩
  rw [hi] at HI HC
  rw [← HC.out]
  clear hi hr hlen
  go_enter Tryz.func151, Tryz.ntmps151
  go_wp2_with fail
  refine HI.out.mono ?_
  rintro e w' ⟨rfl, rfl⟩
  go_wp2_with fail
  go_ret
  exact ⟨rfl, rfl⟩
theorem isCol_any (l : List Int) (a : Option Addr) (cap : Nat) (w : World) (hlen : l.length ≤ 100000) (hr : Reads w a l.length (ints l)) :
    Calls Tryz.prog 95 #[.slice a l.length cap] w fun e w' => e = .returned (.bool (colB l)) ∧ w = w' := by
  have HI := zH (conN_any l a cap w hlen hr)
  obtain ⟨i, hi⟩ : ∃ i, colB l = i := ⟨_, rfl⟩
  rw [hi] at HI ⊢
  clear hi hr hlen
  go_enter Tryz.func95, Tryz.ntmps95
  go_wp2_with fail
  refine HI.out.mono ?_
  rintro e w' ⟨rfl, rfl⟩
  go_wp2_with fail
  go_ret
  exact ⟨rfl, rfl⟩

/-- The error of a column. -/
def clmE (x y z : Int) : Int := unl (colB [x, y, z]) 2
theorem reads3 (W : World) (x y z : Int) (T : TypeId) : Reads (W.alloc (.cells #[.int .i64 x, .int .i64 y, .int .i64 z] T)) (some ⟨W.heap.size, 0, none⟩) 3 (ints [x, y, z]) := by
  refine (Blk.new W _ _).row (fun i hi => ?_)
  match i, hi with
  | 0, _ => rfl
  | 1, _ => rfl
  | 2, _ => rfl
theorem isCol3_any (x y z : Int) (W : World) (B : Nat) (hB : W.heap.size = B) :
    Calls Tryz.prog 95 #[.slice (some ⟨B, 0, none⟩) 3 3] (W.alloc (.cells #[.int .i64 x, .int .i64 y, .int .i64 z] 3)) fun e w' => e = .returned (.bool (colB [x, y, z])) ∧ W.alloc (.cells #[.int .i64 x, .int .i64 y, .int .i64 z] 3) = w' := by
  subst hB
  have h := isCol_any [x, y, z] (some ⟨W.heap.size, 0, none⟩) 3 (W.alloc (.cells #[.int .i64 x, .int .i64 y, .int .i64 z] 3)) (show 3 ≤ 100000 by omega) (reads3 W x y z _)
  exact h
theorem clmE_any (x y z : Int) (w : World) :
    Calls Tryz.prog 93 #[.agg #[.int .i64 x, .int .i64 y, .int .i64 z]] w fun e w' => e = .returned (.int .i64 (clmE x y z)) ∧ Below w.heap.size w w' := by
  have HI := zH (fun W B hB => isCol3_any x y z W B hB)
  have HE : Hid (clmE x y z = unl (colB [x, y, z]) 2) := zH rfl
  obtain ⟨i, hi⟩ : ∃ i, colB [x, y, z] = i := ⟨_, rfl⟩
  obtain ⟨e, he⟩ : ∃ i, clmE x y z = i := ⟨_, rfl⟩
  rw [hi] at HI HE
  rw [he] at HE ⊢
  clear hi he
  go_enter Tryz.func93, Tryz.ntmps93
  go_wp2_with fail
  refine (HI.out _ _ (by simp)).mono ?_
  rintro e w' ⟨rfl, rfl⟩
  go_wp2_with (go_at_call 94; refine (oUnless_any _ _ _).mono ?_; rintro e w' ⟨rfl, rfl⟩; rw [← HE.out])
  go_ret
  exact ⟨rfl, bAlloc (bAlloc (bSelf w) _) _⟩

/-- The square of a column. -/
def sqrQ (x y z m : Int) : Int × Int := (4 * x * y, z * m)
theorem colB3 {x y z : Int} (h : colB [x, y, z] = true) : (1 ≤ x ∧ x ≤ 10000) ∧ (1 ≤ y ∧ y ≤ 10000) ∧ (1 ≤ z ∧ z ≤ 10000) := by
  unfold colB at h
  simp only [List.all_cons, List.all_nil, Bool.and_true, Bool.and_eq_true, wthn_iff] at h
  exact h
theorem sqr_any (x y z m : Int) (w : World) (h : (1 ≤ x ∧ x ≤ 10000) ∧ (1 ≤ y ∧ y ≤ 10000) ∧ (1 ≤ z ∧ z ≤ 10000)) (hm : 0 ≤ m ∧ m ≤ 10000) :
    Calls Tryz.prog 96 #[.agg #[.int .i64 x, .int .i64 y, .int .i64 z], .int .i64 m] w fun e w' => e = .returned (.agg #[.int .i64 (sqrQ x y z m).1, .int .i64 (sqrQ x y z m).2]) ∧ Below w.heap.size w w' := by
  obtain ⟨⟨x1, x2⟩, ⟨y1, y2⟩, z1, z2⟩ := h
  obtain ⟨m1, m2⟩ := hm
  have p1 := mul_bd (a := 4 * x) (b := y) (A := 40000) (B := 10000) (by omega) (by omega) (by omega) (by omega)
  obtain ⟨p1a, p1b⟩ := p1
  have p2 := mul_bd (a := z) (b := m) (A := 10000) (B := 10000) (by omega) (by omega) (by omega) (by omega)
  obtain ⟨p2a, p2b⟩ := p2
  unfold sqrQ
  dsimp only
  go_enter Tryz.func96, Tryz.ntmps96
  go_wp2_with fail
  refine bodyPost_ret (v := .agg #[.int .i64 (4 * x * y), .int .i64 (z * m)]) ?_ rfl ⟨rfl, ?_⟩
  · simp [results, Tryz.results96, go_sem]
  · exact bAlloc (bAlloc (bSelf w) _) _
end
section
open Go.RowKit
theorem clmE_ok {x y z : Int} (h : clmE x y z = 0) : (1 ≤ x ∧ x ≤ 10000) ∧ (1 ≤ y ∧ y ≤ 10000) ∧ (1 ≤ z ∧ z ≤ 10000) := colB3 ((unlZ (by decide)).1 h)
theorem sqr_ok {x y z m : Int} (h : (1 ≤ x ∧ x ≤ 10000) ∧ (1 ≤ y ∧ y ≤ 10000) ∧ (1 ≤ z ∧ z ≤ 10000)) (hm : 1 ≤ m ∧ m ≤ 10000) : QOk (sqrQ x y z m) := by
  obtain ⟨⟨x1, x2⟩, ⟨y1, y2⟩, z1, z2⟩ := h
  obtain ⟨m1, m2⟩ := hm
  have p1 := mul_bd (a := 4 * x) (b := y) (A := 40000) (B := 10000) (by omega) (by omega) (by omega) (by omega)
  have p2 := mul_bd (a := z) (b := m) (A := 10000) (B := 10000) (by omega) (by omega) (by omega) (by omega)
  have p3 : 0 < 4 * x * y := Int.mul_pos (by omega) (by omega)
  have p4 : 0 < z * m := Int.mul_pos (by omega) (by omega)
  exact ⟨show 0 ≤ 4 * x * y by omega, show 4 * x * y ≤ 1000000000 by omega, show 1 ≤ z * m by omega, show z * m ≤ 1000000000 by omega⟩
end
section
open Go.RowKit
attribute [local go_sem] Oper.semAt_some

theorem clr1_any (x : Int) (b : Bool) (hb : wthn x 0 1000000000 = b) (w : World) :
    Calls Tryz.prog 98 #[.int .i64 x] w fun e w' => e = .returned (.bool b) ∧ w = w' := by
  have HW := zH (fun W => (show Calls Tryz.prog 99 #[.int .i64 x, .int .i64 0, .int .i64 1000000000] W fun e w' => e = .returned (.bool b) ∧ W = w' from by subst hb; exact oWithin_any x 0 1000000000 W))
  clear hb
  go_enter Tryz.func98, Tryz.ntmps98
  go_wp2_with (go_at_call 99; refine (HW.out _).mono ?_; rintro e w' ⟨rfl, rfl⟩)
  go_ret
  exact ⟨rfl, rfl⟩
/-- The error of ClearOf: the column's, the masses', the band's. -/
def clrE (x y z a b lo hi : Int) : Int := firstE [clmE x y z, unl (colB [a, b]) 2, unl (decide (a ≤ b)) 9, unl (wthn lo 0 1000000000 && wthn hi 0 1000000000) 2, unl (decide (lo ≤ hi)) 9]
/-- The answer of ClearOf. -/
def clrO (x y z a b lo hi : Int) : Int := if clrE x y z a b lo hi = 0 then clrA (sqrQ x y z b) (sqrQ x y z a) lo hi else 0
end
section
open Go.RowKit

structure Pre (R : World → World → Prop) : Prop where
  refl : ∀ w, R w w
  trans : ∀ {a b c}, R a b → R b c → R a c
/-- What lies below N, and block b, stays. -/
def KeepR (N b : Nat) (u u' : World) : Prop := Below N u u' ∧ u'.heap[b]? = u.heap[b]?
theorem KeepR.pre (N b : Nat) : Pre (KeepR N b) := ⟨fun _ => ⟨Below.refl _ _, rfl⟩, fun h h' => ⟨h.1.trans h'.1, h'.2.trans h.2⟩⟩
theorem Blk.same {w w' : World} {b : Nat} {cs : Array Value} (h : Blk w b cs) (hb : w'.heap[b]? = w.heap[b]?) : Blk w' b cs := by
  have h1 : b < w'.heap.size := by
    have := h.1
    rcases Nat.lt_or_ge b w'.heap.size with h2 | h2
    · exact h2
    · rw [Array.getElem?_eq_none h2, Array.getElem?_eq_getElem this] at hb; cases hb
  exact ⟨h1, fun o => (World.cell?_of_block (a := ⟨b, o, none⟩) hb).trans (h.2.1 o), fun o => (World.frozen?_of_block (a := ⟨b, o, none⟩) hb).trans (h.2.2 o)⟩

section
variable {P : Program} {R : World → World → Prop} {ops : Array Oper} {Q : Exit → Act → World → Prop}

/-- In the world w, and in each later one, operation o leaves v in its slot, and the world as it is. -/
def YG (P : Program) (R : World → World → Prop) (o : Oper) (v : Value) (a : Act) (w : World) : Prop := ∀ w', R w w' → o.quietAt P a (fun w'' => w'' = w') w' v
def Y3 (P : Program) (R : World → World → Prop) (ops : Array Oper) (o : Oper) (v : Value) (a : Act) (w : World) : Prop :=
  (Region.wanted o (yielded ops a.tmps) = true ∧ YG P R o v a w) ∨ (Region.wanted o (yielded ops a.tmps) = false ∧ v = undef)

theorem Y3.later (hR : Pre R) {o : Oper} {v : Value} {a : Act} {w w' : World} (h : Y3 P R ops o v a w) (hb : R w w') : Y3 P R ops o v a w' := by
  rcases h with ⟨hw, hv⟩ | h
  · exact .inl ⟨hw, fun w2 h2 => hv w2 (hR.trans hb h2)⟩
  · exact .inr h
theorem Y3.of_same {o : Oper} {v : Value} {a a' : Act} {w : World} (hy : Y3 P R ops o v a w) (he : execOp a'.eval o = execOp a.eval o)
    (hw : Region.wanted o (yielded ops a'.tmps) = Region.wanted o (yielded ops a.tmps)) : Y3 P R ops o v a' w := by
  unfold Y3 YG Oper.quietAt at *
  rw [he, hw]
  exact hy
theorem Y3.wpOp (hR : Pre R) {i : Nat} {o : Oper} {v : Value} {a : Act} {w : World} (hi : ops[i]? = some o) (hy : Y3 P R ops o v a w) {K : Act → World → Prop} (h : K (a.put o.dst v) w) : wpOp P ops Q i K a w := by
  unfold Go.wpOp
  simp only [hi]
  rcases hy with ⟨hw, hv⟩ | ⟨hw, rfl⟩
  · simp only [hw, if_true]
    refine .inl (Oper.wp_of_quiet (C := fun w' => w' = w) rfl (K := fun a' => a' = a.put o.dst v) (fun a' w' hw' ha' => by rw [hw', ha']; exact h) ⟨v, fun w' hw' => ?_, rfl⟩)
    subst hw'
    exact hv _ (hR.refl _)
  · simp only [hw, Bool.false_eq_true, if_false]; exact h

theorem wpOp_put3 (hR : Pre R) {j : Nat} {oi oj : Oper} {v : Value} (hj : ops[j]? = some oj) (hap : oi.apart ops oj = true)
    (hsi : ∀ cs b, oi.op ≠ .select cs b) (hsj : ∀ cs b, oj.op ≠ .select cs b)
    (hQ : ∀ c a w, Q (.panic c) (a.put oi.dst v) w → Q (.panic c) a w) {K : Act → World → Prop} {a : Act} {w : World}
    (hy : Y3 P R ops oi v a w) (h : wpOp P ops Q j (fun a' w' => R w w' ∧ K a' w') (a.put oi.dst v) w) :
    wpOp P ops Q j (fun a' w' => R w w' ∧ Y3 P R ops oi v a' w' ∧ K (a'.put oi.dst v) w') a w := by
  obtain ⟨h1, h2, h3⟩ := Oper.apart_spec hap
  have keep : ∀ (a : Act) (w' : World), Y3 P R ops oi v a w → R w w' → ∀ u, Y3 P R ops oi v (a.put oj.dst u) w' := fun a w' hy hb u =>
    (hy.later hR hb).of_same (execOp_put oi hsi a oj.dst u h3) (wanted_put oi a oj.dst u h3)
  have keepD : ∀ d, Y3 P R ops oi v { a with defers := d :: a.defers } w := fun d => hy.of_same rfl rfl
  unfold wpOp at *
  simp only [hj] at *
  rw [wanted_put oj a oi.dst v h1] at h
  split
  · rename_i hw
    simp only [hw, if_true] at h
    rcases h with h | ⟨hasks, hlets⟩
    case inr => exact .inr ⟨by unfold Oper.asks at *; rw [execOp_put oj hsj a oi.dst v h1] at hasks; exact hasks, hlets⟩
    refine .inl ?_
    unfold Oper.wp at *
    rw [execOp_put oj hsj a oi.dst v h1] at h
    generalize (execOp a.eval oj).run P w = r at *
    cases r with
    | ok n w' =>
      cases n <;> simp only [Oper.upon] at h ⊢
      case value u => exact ⟨h.1, keep a w' hy h.1 u, by rw [← Act.put_comm a v u h2]; exact h.2⟩
      case skip => exact ⟨h.1, keep a w' hy h.1 _, by rw [← Act.put_comm a v undef h2]; exact h.2⟩
      case defer d =>
        refine ⟨h.1, keep _ w' (keepD d) h.1 _, ?_⟩
        rw [← Act.put_comm _ v undef h2, ← Act.put_defers]
        exact h.2
      case enter f args =>
        refine Calls.mono h fun e w'' he => ?_
        cases e with
        | returned u => exact ⟨he.1, keep a w'' hy he.1 u, by rw [← Act.put_comm a v u h2]; exact he.2⟩
        | panicked c => exact hQ _ _ _ he
        | outgrown => exact he
      case row row args => exact Rows.mono h fun u w'' he => ⟨he.1, keep a w'' hy he.1 u, by rw [← Act.put_comm a v u h2]; exact he.2⟩
    | halt x w' =>
      cases x <;> simp only [Oper.upon] at h ⊢
      case panic u => exact hQ _ _ _ h
  · rename_i hw
    simp only [hw] at h
    exact ⟨h.1, keep a w hy h.1 _, by rw [← Act.put_comm a v undef h2]; exact h.2⟩

/-- Whatever order is picked; each operation leaves what there was. -/
def wpG (P : Program) (R : World → World → Prop) (ops : Array Oper) (Q : Exit → Act → World → Prop) : Nat → Array Bool → Act → World → Prop
  | 0, listed, a, w => Region.ready .any ops listed = [] ∧ Q .normal a w
  | f + 1, listed, a, w =>
    (Region.ready .any ops listed = [] → Q .normal a w) ∧
    ∀ i ∈ Region.ready .any ops listed, wpOp P ops Q i (fun a' w' => R w w' ∧ wpG P R ops Q f (listed.setIfInBounds i true) a' w') a w
theorem wpAny_of_wpG : ∀ (f : Nat) (listed : Array Bool) (a : Act) (w : World), wpG P R ops Q f listed a w → wpAny P .any ops Q f listed a w
  | 0, _, _, _, h => h
  | f + 1, _, _, _, h => ⟨h.1, fun i hi => wpOp_mono (fun a' w' h' => wpAny_of_wpG f _ a' w' h'.2) (h.2 i hi)⟩

theorem wpG_first (hR : Pre R) {i : Nat} {oi : Oper} {v : Value} (hi : ops[i]? = some oi) (hsel : ∀ (j : Nat) (o : Oper) cs b, ops[j]? = some o → o.op ≠ .select cs b)
    (hQ : ∀ c a w, Q (.panic c) (a.put oi.dst v) w → Q (.panic c) a w) :
    ∀ (fuel : Nat) (listed : Array Bool) (a : Act) (w : World),
      (∀ j oj, ops[j]? = some oj → j ≠ i → listed.getD j true = false → (∀ e ∈ oj.after, Region.binds .any e = true → e.on ≠ i) → oi.apart ops oj = true) →
      i ∈ Region.ready .any ops listed → Y3 P R ops oi v a w →
      wpG P R ops Q fuel (listed.setIfInBounds i true) (a.put oi.dst v) w → wpG P R ops Q (fuel + 1) listed a w := by
  intro fuel
  induction fuel with
  | zero =>
    intro listed a w _ hr hy H
    refine ⟨fun h => (by rw [h] at hr; cases hr), fun j hj => ?_⟩
    by_cases hji : j = i
    · subst hji; exact hy.wpOp hR hi ⟨hR.refl _, H⟩
    · have := ready_mono hj hji
      rw [H.1] at this
      cases this
  | succ fuel ih =>
    intro listed a w hfree hr hy H
    refine ⟨fun h => (by rw [h] at hr; cases hr), fun j hj => ?_⟩
    by_cases hji : j = i
    · subst hji; exact hy.wpOp hR hi ⟨hR.refl _, H⟩
    · have h1 := H.2 j (ready_mono hj hji)
      obtain ⟨hjun, oj, hoj, hall⟩ := mem_ready.1 hj
      have hnot : ∀ e ∈ oj.after, Region.binds .any e = true → e.on ≠ i := fun e he hb heq => by
        have h1 := hall e he hb
        have h0 := (mem_ready.1 hr).1
        rw [heq] at h1
        rcases Nat.lt_or_ge i listed.size with h' | h'
        · simp [h'] at h0 h1; rw [h0] at h1; cases h1
        · simp [Array.getElem?_eq_none h'] at h1
      have h2 := wpOp_put3 hR hoj (hfree j oj hoj hji hjun hnot) (fun cs b => hsel i oi cs b hi) (fun cs b => hsel j oj cs b hoj) hQ hy h1
      have hfree' : ∀ k ok, ops[k]? = some ok → k ≠ i → (listed.setIfInBounds j true).getD k true = false →
          (∀ e ∈ ok.after, Region.binds .any e = true → e.on ≠ i) → oi.apart ops ok = true := fun k ok hk hki hun hno => by
        refine hfree k ok hk hki ?_ hno
        by_cases hjk : j = k
        · subst hjk; exact hjun
        · rw [getD_set_ne true hjk] at hun; exact hun
      refine wpOp_mono (fun a' w' h3 => ⟨h3.1, ih (listed.setIfInBounds j true) a' w' hfree' (ready_mono hr (Ne.symm hji)) h3.2.1 ?_⟩) h2
      rw [Array.setIfInBounds_comm _ _ hji]
      exact h3.2.2

end

section
variable {P : Program} {R : World → World → Prop} {l : List Oper} {Q : Exit → Act → World → Prop}

/-- A walk over all orders that matter: what only reads is taken first; all else is parted on. -/
structure WG (P : Program) (R : World → World → Prop) (l : List Oper) (Q : Exit → Act → World → Prop) (f : Nat) (listed : Array Bool) (a : Act) (w : World) : Prop where
  out : Pre R → wpG P R l.toArray Q f listed a w
theorem WG_yes {f : Nat} {listed : Array Bool} {a : Act} {w : World} (i : Nat) {o : Oper} (hi : l[i]? = some o) (hB : (Region.noSelect l.toArray && (Region.ready .any l.toArray listed).contains i && Region.free .any l.toArray listed i) = true)
    (hQ : ∀ c d v a w, Q (.panic c) (a.put (some d) v) w → Q (.panic c) a w) (hw : Region.wanted o (yielded l.toArray a.tmps) = true)
    (h : ∃ v, (∀ w', R w w' → o.quietAt P a (fun w'' => w'' = w') w' v) ∧ WG P R l Q f (listed.setIfInBounds i true) (a.put o.dst v) w) : WG P R l Q (f + 1) listed a w := by
  obtain ⟨v, hv, hn⟩ := h
  simp only [Bool.and_eq_true] at hB
  have h0 : l.toArray[i]? = some o := by simpa using hi
  refine ⟨fun hR => wpG_first hR h0 (Region.noSelect_spec hB.1.1) (fun c a w => ?_) _ _ _ _ (Region.free_spec h0 hB.2) (by simpa using hB.1.2) (.inl ⟨hw, hv⟩) (hn.out hR)⟩
  cases hd : o.dst with
  | none => exact fun h => h
  | some d => exact hQ c d v a w
theorem WG_no {f : Nat} {listed : Array Bool} {a : Act} {w : World} (i : Nat) {o : Oper} (hi : l[i]? = some o) (hB : (Region.noSelect l.toArray && (Region.ready .any l.toArray listed).contains i && Region.free .any l.toArray listed i) = true)
    (hQ : ∀ c d v a w, Q (.panic c) (a.put (some d) v) w → Q (.panic c) a w) (hw : Region.wanted o (yielded l.toArray a.tmps) = false)
    (h : WG P R l Q f (listed.setIfInBounds i true) (a.put o.dst undef) w) : WG P R l Q (f + 1) listed a w := by
  simp only [Bool.and_eq_true] at hB
  have h0 : l.toArray[i]? = some o := by simpa using hi
  refine ⟨fun hR => wpG_first hR h0 (Region.noSelect_spec hB.1.1) (fun c a w => ?_) _ _ _ _ (Region.free_spec h0 hB.2) (by simpa using hB.1.2) (.inr ⟨hw, rfl⟩) (h.out hR)⟩
  cases hd : o.dst with
  | none => exact fun h => h
  | some d => exact hQ c d undef a w
/-- What is asked of one operation that comes up. -/
def stepG (P : Program) (R : World → World → Prop) (l : List Oper) (Q : Exit → Act → World → Prop) (f i : Nat) (listed : Array Bool) (o : Oper) (a : Act) (w : World) : Prop :=
  wpList P l.toArray (MidQ (fun a' w' => R w w' ∧ WG P R l Q f (listed.setIfInBounds i true) a' w') Q) [o] a w
theorem stepG.op (hR : Pre R) {f i : Nat} {listed : Array Bool} {o : Oper} {a : Act} {w : World} (hi : l[i]? = some o) (h : stepG P R l Q f i listed o a w) :
    wpOp P l.toArray Q i (fun a' w' => R w w' ∧ wpG P R l.toArray Q f (listed.setIfInBounds i true) a' w') a w :=
  wpOp_mono (fun _ _ h' => ⟨h'.1, h'.2.out hR⟩) (wpOp_of_mid (by simpa using hi) h)
theorem WG_one {f : Nat} {listed : Array Bool} {a : Act} {w : World} (i : Nat) {o : Oper} (hi : l[i]? = some o) (hr : Region.ready .any l.toArray listed = [i]) (h : stepG P R l Q f i listed o a w) : WG P R l Q (f + 1) listed a w := by
  refine ⟨fun hR => ⟨fun h1 => (by rw [hr] at h1; cases h1), fun j hj => ?_⟩⟩
  rw [hr] at hj
  have : j = i := by simpa using hj
  subst this
  exact h.op hR hi
theorem WG_two {f : Nat} {listed : Array Bool} {a : Act} {w : World} (i j : Nat) {o p : Oper} (hi : l[i]? = some o) (hj : l[j]? = some p) (hr : Region.ready .any l.toArray listed = [i, j]) (h : stepG P R l Q f i listed o a w) (h' : stepG P R l Q f j listed p a w) : WG P R l Q (f + 1) listed a w := by
  refine ⟨fun hR => ⟨fun h1 => (by rw [hr] at h1; cases h1), fun k hk => ?_⟩⟩
  rw [hr] at hk
  simp only [List.mem_cons, List.not_mem_nil, or_false] at hk
  rcases hk with rfl | rfl
  · exact h.op hR hi
  · exact h'.op hR hj
theorem WG_three {f : Nat} {listed : Array Bool} {a : Act} {w : World} (i j k : Nat) {o p q : Oper} (hi0 : l[i]? = some o) (hj0 : l[j]? = some p) (hk0 : l[k]? = some q) (hr : Region.ready .any l.toArray listed = [i, j, k]) (hi : stepG P R l Q f i listed o a w) (hj : stepG P R l Q f j listed p a w) (hk : stepG P R l Q f k listed q a w) : WG P R l Q (f + 1) listed a w := by
  refine ⟨fun hR => ⟨fun h1 => (by rw [hr] at h1; cases h1), fun z hz => ?_⟩⟩
  rw [hr] at hz
  simp only [List.mem_cons, List.not_mem_nil, or_false] at hz
  rcases hz with rfl | rfl | rfl
  · exact hi.op hR hi0
  · exact hj.op hR hj0
  · exact hk.op hR hk0
theorem WG_four {f : Nat} {listed : Array Bool} {a : Act} {w : World} (i j k m : Nat) {o p q r : Oper} (hi0 : l[i]? = some o) (hj0 : l[j]? = some p) (hk0 : l[k]? = some q) (hm0 : l[m]? = some r) (hr : Region.ready .any l.toArray listed = [i, j, k, m]) (hi : stepG P R l Q f i listed o a w) (hj : stepG P R l Q f j listed p a w) (hk : stepG P R l Q f k listed q a w) (hm : stepG P R l Q f m listed r a w) : WG P R l Q (f + 1) listed a w := by
  refine ⟨fun hR => ⟨fun h1 => (by rw [hr] at h1; cases h1), fun z hz => ?_⟩⟩
  rw [hr] at hz
  simp only [List.mem_cons, List.not_mem_nil, or_false] at hz
  rcases hz with rfl | rfl | rfl | rfl
  · exact hi.op hR hi0
  · exact hj.op hR hj0
  · exact hk.op hR hk0
  · exact hm.op hR hm0
theorem WG_done {f : Nat} {listed : Array Bool} {a : Act} {w : World} (hr : Region.ready .any l.toArray listed = []) (h : Q .normal a w) : WG P R l Q f listed a w := by
  cases f with
  | zero => exact ⟨fun _ => ⟨hr, h⟩⟩
  | succ f => exact ⟨fun _ => ⟨fun _ => h, fun i hi => by rw [hr] at hi; cases hi⟩⟩
theorem wp_region_graph {id : Nat} {a : Act} {w : World} (R : World → World → Prop) (hR : Pre R) (hm : P.follows .mixedOrders = true) (h : ∀ w', w'.heap = w.heap → Below w.heap.size w w' → WG P R l Q l.length (Array.replicate l.length false) a w') : (Code.region id l.toArray true).wp P Q a w := by
  refine wp_region_any hm (wpAny_of_wpG (R := R) _ _ _ _ ?_)
  have := (h w.drew rfl (Below.refl _ _).drew).out hR
  simpa using this
end

section
variable {P : Program} {N : Nat} {l : List Oper} {Q : Exit → Act → World → Prop}
theorem WT_three {f : Nat} {listed : Array Bool} {a : Act} {w : World} (i j k : Nat) {o p q : Oper} (hi0 : l[i]? = some o) (hj0 : l[j]? = some p) (hk0 : l[k]? = some q) (hr : Region.ready .any l.toArray listed = [i, j, k]) (hi : stepT P N l Q f i listed o a w) (hj : stepT P N l Q f j listed p a w) (hk : stepT P N l Q f k listed q a w) : WT P N l Q (f + 1) listed a w := by
  refine ⟨⟨fun h1 => (by rw [hr] at h1; cases h1), fun z hz => ?_⟩⟩
  rw [hr] at hz
  simp only [List.mem_cons, List.not_mem_nil, or_false] at hz
  rcases hz with rfl | rfl | rfl
  · exact hi.op hi0
  · exact hj.op hj0
  · exact hk.op hk0
theorem WT_four {f : Nat} {listed : Array Bool} {a : Act} {w : World} (i j k m : Nat) {o p q r : Oper} (hi0 : l[i]? = some o) (hj0 : l[j]? = some p) (hk0 : l[k]? = some q) (hm0 : l[m]? = some r) (hr : Region.ready .any l.toArray listed = [i, j, k, m]) (hi : stepT P N l Q f i listed o a w) (hj : stepT P N l Q f j listed p a w) (hk : stepT P N l Q f k listed q a w) (hm : stepT P N l Q f m listed r a w) : WT P N l Q (f + 1) listed a w := by
  refine ⟨⟨fun h1 => (by rw [hr] at h1; cases h1), fun z hz => ?_⟩⟩
  rw [hr] at hz
  simp only [List.mem_cons, List.not_mem_nil, or_false] at hz
  rcases hz with rfl | rfl | rfl | rfl
  · exact hi.op hi0
  · exact hj.op hj0
  · exact hk.op hk0
  · exact hm.op hm0
end

/-- Four cells of block b are written. -/
def st4 (W : World) (b : Nat) (x0 x1 x2 x3 : Value) : World := (((W.setCell ⟨b, 0, none⟩ x0).setCell ⟨b, 1, none⟩ x1).setCell ⟨b, 2, none⟩ x2).setCell ⟨b, 3, none⟩ x3
theorem below_st4 (W : World) {N b : Nat} (h : N ≤ b) (x0 x1 x2 x3 : Value) : Below N W (st4 W b x0 x1 x2 x3) :=
  ((((Below.refl _ _).setCell (p := ⟨b, 0, none⟩) h _).setCell (p := ⟨b, 1, none⟩) h _).setCell (p := ⟨b, 2, none⟩) h _).setCell (p := ⟨b, 3, none⟩) h _
theorem Blk.st4 {W : World} {b : Nat} {y0 y1 y2 y3 : Value} (h : Blk W b #[y0, y1, y2, y3]) (x0 x1 x2 x3 : Value) : Blk (st4 W b x0 x1 x2 x3) b #[x0, x1, x2, x3] :=
  (((h.set 0 x0).set 1 x1).set 2 x2).set 3 x3
theorem Blk.st4o {W : World} {b b' : Nat} {cs : Array Value} (h : Blk W b cs) (hb : b' ≠ b) (x0 x1 x2 x3 : Value) : Blk (Go.Proofs.YtjfedpblkejmkaaGreat.st4 W b' x0 x1 x2 x3) b cs :=
  (((h.other (p := ⟨b', 0, none⟩) hb x0).other (p := ⟨b', 1, none⟩) hb x1).other (p := ⟨b', 2, none⟩) hb x2).other (p := ⟨b', 3, none⟩) hb x3
end
end Go.Proofs.YtjfedpblkejmkaaGreat
