/-
  Texts of this claim, in their build order: OP6 OM11 OM12 OM18.
-/
import Derived.Test.YtjfedpblkejmkaaGreatEve10
import Derived.Test.YtjfedpblkejmkaaGreatEve23

/-
  Plain laws of columns.
-/
namespace Go.Proofs.YtjfedpblkejmkaaGreat
open Go.RowKit

/-- The program's answer, from the square with the least and the greatest mass. -/
def clrA (lo hi : Int × Int) (bl bh : Int) : Int := if (lessQ hi (bl, 1) || lessQ (bh, 1) lo) = true then 2 else if (!lessQ lo (bl, 1) && !lessQ (bh, 1) hi) = true then 0 else 1
end Go.Proofs.YtjfedpblkejmkaaGreat

/-
  Columns: isColumn, columnErr, square, SquareOf.
-/
namespace Go.Proofs.YtjfedpblkejmkaaGreat
open Go.RowKit
attribute [local go_sem] Oper.semAt_some

/-- Numbers of a column. -/
def colB (l : List Int) : Bool := l.all (fun x => wthn x 1 10000)
abbrev ixN (l : List Int) (j : Nat) : Bool := !wthn (gi l j) 1 10000
def nonI (l : List Int) : Nat := ixF (ixN l) 0 l.length
theorem non_col {l : List Int} : decide (nonI l < l.length) = !colB l := by
  have key : ∀ (m k : Nat), k + m = l.length → decide (ixF (ixN l) k m < l.length) = !(l.drop k).all (fun x => wthn x 1 10000) := by
    intro m
    induction m with
    | zero =>
      intro k h
      rw [List.drop_eq_nil_of_le (by omega)]
      unfold ixF
      rw [decide_eq_false (by omega)]; rfl
    | succ m ih =>
      intro k h
      have hk : k < l.length := by omega
      have h2 := ih (k + 1) (by omega)
      rw [gi_drop l k hk, List.all_cons]
      unfold ixF
      by_cases hz : ixN l k = true
      · rw [if_pos hz, decide_eq_true hk]
        have : wthn (gi l k) 1 10000 = false := by simpa using hz
        rw [this]; rfl
      · rw [if_neg hz, h2]
        have : wthn (gi l k) 1 10000 = true := by simpa using hz
        rw [this]; rfl
  have := key l.length 0 (by omega)
  rw [List.drop_zero] at this
  exact this

theorem col1_any (x : Int) (w : World) :
    Calls Tryz.prog 152 #[.int .i64 x] w fun e w' => e = .returned (.bool (!wthn x 1 10000)) ∧ w = w' := by
  go_enter Tryz.func152, Tryz.ntmps152
  go_wp2_with (go_at_call 99; refine (oWithin_any _ _ _ _).mono ?_; rintro e w' ⟨rfl, rfl⟩)
  go_ret
  have h : (!decide (1 ≤ x) || !decide (x ≤ 10000)) = !wthn x 1 10000 := by unfold wthn; rw [Bool.not_and]
  exact ⟨by rw [← h]; rfl, rfl⟩

set_option maxHeartbeats 800000 in
set_option maxRecDepth 100000 in
theorem idxN_any (l : List Int) (a : Option Addr) (cap : Nat) (w : World) (hlen : l.length ≤ 100000) (hr : Reads w a l.length (ints l)) :
    Calls Tryz.prog 173 #[.slice a l.length cap, .func (.func 152) #[] #[]] w fun e w' => e = .returned (.int .i64 (idxI (nonI l) l.length)) ∧ w = w' := by
  have HR := Lib.hid hr
  have HP : Hid (nonI l = ixF (ixN l) 0 l.length) := Lib.hid rfl
  obtain ⟨pi, hpi⟩ : ∃ i, nonI l = i := ⟨_, rfl⟩
  rw [hpi] at HP ⊢
  clear hr hpi
  go_enter Tryz.func173, Tryz.ntmps173
  go_wp2_with fail
  go_loopw [5, 8] (fun _ i wr => ∃ k : Nat, k ≤ l.length ∧ i = .int .i64 k ∧ Hid (pi = ixF (ixN l) k (l.length - k)) ∧ w = wr) (fun _ i _ => l.length - (intOf i).toNat)
  case atStart => exact ⟨0, Nat.zero_le _, rfl, HP, rfl⟩
  case round =>
    obtain ⟨k, hk, rfl, hi, rfl⟩ := hrel
    by_cases hlt : k < l.length
    · obtain ⟨b, off, rfl, hb, hc⟩ := HR.out.at (k := k) (by omega)
      have c0 : w.cell? ⟨b, off + k, none⟩ = some (.int .i64 (gi l k)) := hc k (by omega)
      clear hc
      cases hz : ixN l k
      · have HS := Lib.hid (ixF_step hlt hz)
        have HZ : Hid ((!wthn (gi l k) 1 10000) = false) := Lib.hid hz
        clear hz
        go_wp2_with (go_at_call 152; refine (col1_any _ _).mono ?_; rintro e w' ⟨rfl, rfl⟩; rw [HZ.out])
        go_roundw
        case rel => exact ⟨k + 1, by omega, by go_num, Lib.hid (hi.out.trans HS.out), trivial⟩
        case measure => simp [intOf]; omega
      · have HS := Lib.hid (ixF_stop hlt hz)
        have HZ : Hid ((!wthn (gi l k) 1 10000) = true) := Lib.hid hz
        clear hz
        go_wp2_with (go_at_call 152; refine (col1_any _ _).mono ?_; rintro e w' ⟨rfl, rfl⟩; rw [HZ.out])
        go_ret
        exact ⟨ret_int (by rw [hi.out, HS.out]; unfold idxI; rw [if_pos hlt]), rfl⟩
    · have : k = l.length := by omega
      subst this
      go_wp2
      go_ret
      exact ⟨ret_int (by rw [hi.out, Nat.sub_self]; unfold idxI ixF; rw [if_neg (by omega)]), rfl⟩

theorem conN_any (l : List Int) (a : Option Addr) (cap : Nat) (w : World) (hlen : l.length ≤ 100000) (hr : Reads w a l.length (ints l)) :
    Calls Tryz.prog 151 #[.slice a l.length cap, .func (.func 152) #[] #[]] w fun e w' => e = .returned (.bool (!colB l)) ∧ w = w' := by
  have HI := Lib.hid (idxN_any l a cap w hlen hr)
  have HC : Hid (decide (0 ≤ idxI (nonI l) l.length) = !colB l) := Lib.hid (by
    rw [← non_col]
    unfold idxI
    by_cases h : nonI l < l.length
    · rw [if_pos h, decide_eq_true h, decide_eq_true (by omega)]
    · rw [if_neg h, decide_eq_false h]; rfl)
  obtain ⟨i, hi⟩ : ∃ i, idxI (nonI l) l.length = i := ⟨_, rfl⟩
  rw [hi] at HI HC
  rw [← HC.out]
  clear hi hr hlen
  go_enter Tryz.func151, Tryz.ntmps151
  go_wp2_with fail
  refine HI.out.mono ?_
  rintro e w' ⟨rfl, rfl⟩
  go_wp2_with fail
  go_ret
  exact ⟨rfl, rfl⟩
theorem isCol_any (l : List Int) (a : Option Addr) (cap : Nat) (w : World) (hlen : l.length ≤ 100000) (hr : Reads w a l.length (ints l)) :
    Calls Tryz.prog 95 #[.slice a l.length cap] w fun e w' => e = .returned (.bool (colB l)) ∧ w = w' := by
  have HI := Lib.hid (conN_any l a cap w hlen hr)
  obtain ⟨i, hi⟩ : ∃ i, colB l = i := ⟨_, rfl⟩
  rw [hi] at HI ⊢
  clear hi hr hlen
  go_enter Tryz.func95, Tryz.ntmps95
  go_wp2_with fail
  refine HI.out.mono ?_
  rintro e w' ⟨rfl, rfl⟩
  go_wp2_with fail
  go_ret
  exact ⟨rfl, rfl⟩

/-- The error of a column. -/
def clmE (x y z : Int) : Int := unl (colB [x, y, z]) 2
theorem reads3 (W : World) (x y z : Int) (T : TypeId) : Reads (W.alloc (.cells #[.int .i64 x, .int .i64 y, .int .i64 z] T)) (some ⟨W.heap.size, 0, none⟩) 3 (ints [x, y, z]) := by
  refine (Blk.new W _ _).row (fun i hi => ?_)
  match i, hi with
  | 0, _ => rfl
  | 1, _ => rfl
  | 2, _ => rfl
theorem isCol3_any (x y z : Int) (W : World) (B : Nat) (hB : W.heap.size = B) :
    Calls Tryz.prog 95 #[.slice (some ⟨B, 0, none⟩) 3 3] (W.alloc (.cells #[.int .i64 x, .int .i64 y, .int .i64 z] 3)) fun e w' => e = .returned (.bool (colB [x, y, z])) ∧ W.alloc (.cells #[.int .i64 x, .int .i64 y, .int .i64 z] 3) = w' := by
  subst hB
  have h := isCol_any [x, y, z] (some ⟨W.heap.size, 0, none⟩) 3 (W.alloc (.cells #[.int .i64 x, .int .i64 y, .int .i64 z] 3)) (show 3 ≤ 100000 by omega) (reads3 W x y z _)
  exact h
theorem clmE_any (x y z : Int) (w : World) :
    Calls Tryz.prog 93 #[.agg #[.int .i64 x, .int .i64 y, .int .i64 z]] w fun e w' => e = .returned (.int .i64 (clmE x y z)) ∧ Below w.heap.size w w' := by
  have HI := Lib.hid (fun W B hB => isCol3_any x y z W B hB)
  have HE : Hid (clmE x y z = unl (colB [x, y, z]) 2) := Lib.hid rfl
  obtain ⟨i, hi⟩ : ∃ i, colB [x, y, z] = i := ⟨_, rfl⟩
  obtain ⟨e, he⟩ : ∃ i, clmE x y z = i := ⟨_, rfl⟩
  rw [hi] at HI HE
  rw [he] at HE ⊢
  clear hi he
  go_enter Tryz.func93, Tryz.ntmps93
  go_wp2_with fail
  refine (HI.out _ _ (by simp)).mono ?_
  rintro e w' ⟨rfl, rfl⟩
  go_wp2_with (go_at_call 94; refine (oUnless_any _ _ _).mono ?_; rintro e w' ⟨rfl, rfl⟩; rw [← HE.out])
  go_ret
  exact ⟨rfl, bAlloc (bAlloc (bSelf w) _) _⟩

/-- The square of a column. -/
def sqrQ (x y z m : Int) : Int × Int := (4 * x * y, z * m)
theorem colB3 {x y z : Int} (h : colB [x, y, z] = true) : (1 ≤ x ∧ x ≤ 10000) ∧ (1 ≤ y ∧ y ≤ 10000) ∧ (1 ≤ z ∧ z ≤ 10000) := by
  unfold colB at h
  simp only [List.all_cons, List.all_nil, Bool.and_true, Bool.and_eq_true, wthn_iff] at h
  exact h
theorem sqr_any (x y z m : Int) (w : World) (h : (1 ≤ x ∧ x ≤ 10000) ∧ (1 ≤ y ∧ y ≤ 10000) ∧ (1 ≤ z ∧ z ≤ 10000)) (hm : 0 ≤ m ∧ m ≤ 10000) :
    Calls Tryz.prog 96 #[.agg #[.int .i64 x, .int .i64 y, .int .i64 z], .int .i64 m] w fun e w' => e = .returned (.agg #[.int .i64 (sqrQ x y z m).1, .int .i64 (sqrQ x y z m).2]) ∧ Below w.heap.size w w' := by
  obtain ⟨⟨x1, x2⟩, ⟨y1, y2⟩, z1, z2⟩ := h
  obtain ⟨m1, m2⟩ := hm
  have p1 := mul_bd (a := 4 * x) (b := y) (A := 40000) (B := 10000) (by omega) (by omega) (by omega) (by omega)
  obtain ⟨p1a, p1b⟩ := p1
  have p2 := mul_bd (a := z) (b := m) (A := 10000) (B := 10000) (by omega) (by omega) (by omega) (by omega)
  obtain ⟨p2a, p2b⟩ := p2
  unfold sqrQ
  dsimp only
  go_enter Tryz.func96, Tryz.ntmps96
  go_wp2_with fail
  refine bodyPost_ret (v := .agg #[.int .i64 (4 * x * y), .int .i64 (z * m)]) ?_ rfl ⟨rfl, ?_⟩
  · simp [results, Tryz.results96, go_sem]
  · exact bAlloc (bAlloc (bSelf w) _) _

end Go.Proofs.YtjfedpblkejmkaaGreat

/-
  SquareOf, ClearOf.
-/
namespace Go.Proofs.YtjfedpblkejmkaaGreat
open Go.RowKit
theorem clmE_ok {x y z : Int} (h : clmE x y z = 0) : (1 ≤ x ∧ x ≤ 10000) ∧ (1 ≤ y ∧ y ≤ 10000) ∧ (1 ≤ z ∧ z ≤ 10000) := colB3 ((unlZ (by decide)).1 h)
theorem sqr_ok {x y z m : Int} (h : (1 ≤ x ∧ x ≤ 10000) ∧ (1 ≤ y ∧ y ≤ 10000) ∧ (1 ≤ z ∧ z ≤ 10000)) (hm : 1 ≤ m ∧ m ≤ 10000) : QOk (sqrQ x y z m) := by
  obtain ⟨⟨x1, x2⟩, ⟨y1, y2⟩, z1, z2⟩ := h
  obtain ⟨m1, m2⟩ := hm
  have p1 := mul_bd (a := 4 * x) (b := y) (A := 40000) (B := 10000) (by omega) (by omega) (by omega) (by omega)
  have p2 := mul_bd (a := z) (b := m) (A := 10000) (B := 10000) (by omega) (by omega) (by omega) (by omega)
  have p3 : 0 < 4 * x * y := Int.mul_pos (by omega) (by omega)
  have p4 : 0 < z * m := Int.mul_pos (by omega) (by omega)
  exact ⟨show 0 ≤ 4 * x * y by omega, show 4 * x * y ≤ 1000000000 by omega, show 1 ≤ z * m by omega, show z * m ≤ 1000000000 by omega⟩

end Go.Proofs.YtjfedpblkejmkaaGreat

/-
  ClearOf: whether a number is a square of a band.
-/
namespace Go.Proofs.YtjfedpblkejmkaaGreat
open Go.RowKit
attribute [local go_sem] Oper.semAt_some

theorem clr1_any (x : Int) (b : Bool) (hb : wthn x 0 1000000000 = b) (w : World) :
    Calls Tryz.prog 98 #[.int .i64 x] w fun e w' => e = .returned (.bool b) ∧ w = w' := by
  have HW := Lib.hid (fun W => (show Calls Tryz.prog 99 #[.int .i64 x, .int .i64 0, .int .i64 1000000000] W fun e w' => e = .returned (.bool b) ∧ W = w' from by subst hb; exact oWithin_any x 0 1000000000 W))
  clear hb
  go_enter Tryz.func98, Tryz.ntmps98
  go_wp2_with (go_at_call 99; refine (HW.out _).mono ?_; rintro e w' ⟨rfl, rfl⟩)
  go_ret
  exact ⟨rfl, rfl⟩
/-- The error of ClearOf: the column's, the masses', the band's. -/
def clrE (x y z a b lo hi : Int) : Int := firstE [clmE x y z, unl (colB [a, b]) 2, unl (decide (a ≤ b)) 9, unl (wthn lo 0 1000000000 && wthn hi 0 1000000000) 2, unl (decide (lo ≤ hi)) 9]
/-- The answer of ClearOf. -/
def clrO (x y z a b lo hi : Int) : Int := if clrE x y z a b lo hi = 0 then clrA (sqrQ x y z b) (sqrQ x y z a) lo hi else 0

end Go.Proofs.YtjfedpblkejmkaaGreat

