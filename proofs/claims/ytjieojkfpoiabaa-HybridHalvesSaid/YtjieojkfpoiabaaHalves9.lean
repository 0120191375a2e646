/-
  Texts of this claim, in their build order: C3 C5 D1.
-/
import Derived.Test.YtjieojkfpoiabaaHalves8

/-
  The reference's run.
-/
namespace Go.Proofs.Ytjieojkfpoiabaa
open Go.RowKit

def runR (x : HT) : List Int → List Int → List Int
  | _, [] => []
  | st, f :: zs => nextV x st f :: if inB x (nextV x st f) then runR x (nextR st (nextV x st f)) zs else []

theorem nextR_len {st : List Int} (n : Int) (h : 0 < st.length) : (nextR st n).length = st.length := by simp [nextR]; omega
theorem gi_nextR1 (st : List Int) (n : Int) (i : Nat) (h : i + 1 < st.length) : gi (nextR st n) (i + 1) = gi st i := by
  unfold gi nextR
  rw [List.getD_cons_succ, List.getD_eq_getElem?_getD, List.getD_eq_getElem?_getD, List.getElem?_take, if_pos (by omega)]
theorem owns_to {B : Nat} {e : TypeId} {k : Nat} {v : Value} {n : Nat} {xs : List Value} {w w' : World} (h : w.ownsRow B e k v n xs) (hb : Below w.heap.size w w') : w'.ownsRow B e k v n xs :=
  h.kept (row := none) ⟨hb.os, hb.tape, hb.output, hb.size, fun j hj _ => hb.block j hj⟩ (by cases hv : v.ownBlock <;> simp)

/-- What stands at the head of a round of a run: the state, what has been gathered, the memory. -/
structure RunSt (x : HT) (zs : List Int) (a : Option Addr) (n0 : Nat) (w : World) (k : Nat) (v : Value) (sa : Option Addr) (c : Nat) (st pre : List Int) (wr : World) : Prop where
  hk : k ≤ zs.length
  hc : st.length ≤ c
  hst : RSt x st
  rs : Reads wr sa st.length (ints st)
  all : 0 :: runR x (beg x) zs = pre ++ runR x st (zs.drop k)
  own : wr.ownsRow (n0 + 1) 3 1 v pre.length (pre.map fun z => Value.int .i64 z)
  len : pre.length = k + 1
  blk : Blk wr n0 x.cells
  bel : Below n0 w wr
  rz : Reads wr a zs.length (ints zs)

theorem RunSt.step {x : HT} {zs st pre : List Int} {f : Int} {k : Nat} (h : 0 :: runR x (beg x) zs = pre ++ runR x st (zs.drop k)) (hk : k < zs.length) (hf : gi zs k = f) :
    0 :: runR x (beg x) zs = (pre ++ [nextV x st f]) ++ (if inB x (nextV x st f) then runR x (nextR st (nextV x st f)) (zs.drop (k + 1)) else []) := by
  rw [h, gi_drop zs k hk, hf, List.append_assoc]; rfl

theorem Reads.grown {W W' : World} {a : Option Addr} {m : Nat} {f : Nat → Value} {row : Option Nat} (h : Reads W a m f) (hg : W.grownBy W' row) (hne : ∀ p, a = some p → some p.block ≠ row) : Reads W' a m f := by
  rcases h with h | ⟨b, off, rfl, hb, hc⟩
  · exact .inl h
  · refine .inr ⟨b, off, rfl, Nat.lt_of_lt_of_le hb hg.size, fun i hi => ?_⟩
    rw [← hc i hi]
    have := hg.block b hb (hne _ rfl)
    simp only [World.cell?, this]

end Go.Proofs.Ytjieojkfpoiabaa

/-
  The plain law: what package hybrid computes over states of four numbers is what the reference computes over its own.
-/
namespace Go.Proofs.Ytjieojkfpoiabaa
open Go.RowKit

/-- A state of four numbers, and the reference's. -/
structure Rel (x : HT) (a st : List Int) : Prop where
  len : (st.length : Int) = x.dl + 2
  eq : ∀ i, i < st.length → gi a i = gi st i

theorem Rel.next {x : HT} {a st : List Int} (h : Rel x a st) (hx : x.ok) (n : Int) : Rel x (nextL x a n) (nextR st n) := by
  have h0 := hx.dl1
  have h1 := h.len
  have h2 := hx.dl2
  have hl := nextR_len (st := st) n (by omega)
  refine ⟨by rw [hl]; exact h1, fun i hi => ?_⟩
  rw [hl] at hi
  rcases i with _ | _ | _ | _ | i
  · rfl
  · rw [gi_nextR1 st n 0 hi, ← h.eq 0 (by omega)]; rfl
  · rw [gi_nextR1 st n 1 hi, ← h.eq 1 (by omega)]
    show kp x 1 (gi a 1) = _
    unfold kp; rw [if_pos (by omega)]
  · rw [gi_nextR1 st n 2 hi, ← h.eq 2 (by omega)]
    show kp x 2 (gi a 2) = _
    unfold kp; rw [if_pos (by omega)]
  · omega
end Go.Proofs.Ytjieojkfpoiabaa

/-
  Messages: as lists of three numbers each; the check of each.
-/
namespace Go.Proofs.Ytjieojkfpoiabaa
open Go.RowKit

/-- A message: its kind, its step, its tick. -/
abbrev Msg := Int × Int × Int
def mg (l : List Msg) (i : Nat) : Msg := l.getD i (0, 0, 0)
def mK (l : List Msg) (i : Nat) : Int := (mg l i).1
def mS (l : List Msg) (i : Nat) : Int := (mg l i).2.1
def mA (l : List Msg) (i : Nat) : Int := (mg l i).2.2
def msgs (l : List Msg) (j : Nat) : Value := .int .i64 (if j % 3 = 0 then mK l (j / 3) else if j % 3 = 1 then mS l (j / 3) else mA l (j / 3))
theorem msgs0 (l : List Msg) (i : Nat) : msgs l (i * 3) = .int .i64 (mK l i) := by
  unfold msgs; rw [if_pos (by omega), show i * 3 / 3 = i by omega]
theorem msgs1 (l : List Msg) (i : Nat) : msgs l (i * 3 + 1) = .int .i64 (mS l i) := by
  unfold msgs; rw [if_neg (by omega), if_pos (by omega), show (i * 3 + 1) / 3 = i by omega]
theorem msgs2 (l : List Msg) (i : Nat) : msgs l (i * 3 + 2) = .int .i64 (mA l i) := by
  unfold msgs; rw [if_neg (by omega), if_neg (by omega), show (i * 3 + 2) / 3 = i by omega]

/-- The error of a message, at its place, with the tick of the one before. -/
def msgE (k : Nat) (K S A last : Int) : Int :=
  firstE [unl (decide (0 ≤ K) && decide (K ≤ 1)) 15, unl (decide (0 ≤ S) && decide (S ≤ 60) && (decide (0 ≤ A) && decide (A ≤ 1000000000000))) 2, unl (decide (last ≤ A)) 9, unl (decide (K = k % 2) && decide (S = k / 2)) 14]

set_option maxHeartbeats 1600000 in
set_option maxRecDepth 100000 in
theorem msg1_any (k : Nat) (K S A last : Int) (q : Nat) (w : World) (hk : k ≤ 1000) (hq : Blk w q #[.int .i64 last]) :
    Calls Try.prog 82 #[.int .i64 k, .agg #[.int .i64 K, .int .i64 S, .int .i64 A], .pointer (some ⟨q, 0, none⟩)] w fun e w' => e = .returned (.int .i64 (msgE k K S A last)) ∧
      Blk w' q #[.int .i64 A] ∧ Below q w w' := by
  have HQ := Lib.hid hq
  have hqs := hq.1
  clear hq
  go_enter Try.func82, Try.ntmps82
  go_wp2_with fail
  obtain ⟨W, hW⟩ : ∃ W, w.alloc (.cells #[.int .i64 K, .int .i64 S, .int .i64 A] 61) = W := ⟨_, rfl⟩
  rw [hW]
  have K0 : Hid (Blk W w.heap.size #[.int .i64 K, .int .i64 S, .int .i64 A]) := by subst hW; exact Blk.new _ _ _
  have HB : Hid (Below w.heap.size w W) := by subst hW; exact bAlloc (bSelf w) _
  replace HQ : Hid (Blk W q #[.int .i64 last]) := by subst hW; exact HQ.out.alloc _
  clear hW
  cases hS : (decide (0 ≤ S) && decide (S ≤ 60))
  all_goals
    have HS := Lib.hid hS
    clear hS
    cases hkb : (K == (k : Int) % 2)
  all_goals
    refine wp_region_quiet_tail 31 (fun w' => Below (World.heap W).size (W) w') (by kernel_rfl) (by kernel_rfl) (Below.refl _ _).drew ?_
    simp only [List.take_succ_cons, List.take_zero, List.drop_succ_cons, List.drop_zero]
    repeat (first | (refine wpQuiet_no (by rfl) ?_; (simp only [Act.put, List.setIfInBounds_toArray, List.set_cons_zero, List.set_cons_succ])) | (refine wpQuiet_yes (by rfl) ?_; apply Exists.intro; refine ⟨fun w1 hb1 => ?_, ?_⟩; (focus (((obtain ⟨-, k0, -⟩ := K0.out.to hb1; obtain ⟨-, k1, -⟩ := HQ.out.to hb1); have hb1 := Lib.hid hb1; go_simp); (try (go_bits; try go_simp)); (try (rw [if_pos (by omega)]; try go_simp)); (first | done | ((first | (go_at_call 77; refine (within_any _ _ _ _).mono ?_; rintro e w' ⟨rfl, rfl⟩; first | exact ⟨by rw [HS.out], hb1.out⟩ | exact ⟨rfl, hb1.out⟩) | (go_at_call 83; refine (isTick_any _ _).mono ?_; rintro e w' ⟨rfl, rfl⟩; exact ⟨rfl, hb1.out⟩) | (go_at_call 76; refine (unless_any _ _ _).mono ?_; rintro e w' ⟨rfl, rfl⟩; exact ⟨rfl, hb1.out⟩))) | (with_reducible rfl) | exact rfl))); (simp only [Act.put, List.setIfInBounds_toArray, List.set_cons_zero, List.set_cons_succ])))
    refine wpQuiet_nil ?_
    intro w1 hb1
    replace K0 := Lib.hid (K0.out.to hb1)
    replace HQ := Lib.hid (HQ.out.to hb1)
    have HB1 := Lib.hid (bThen HB.out hb1)
    obtain ⟨-, k0, -⟩ := K0.out
    obtain ⟨-, k1, kf1⟩ := HQ.out
    have hqs1 : q < w1.heap.size := HQ.out.1
    have hws1 : w.heap.size < w1.heap.size := K0.out.1
    clear hb1
    go_wp2_with fail
    refine (first4_new _ _ _ _ _ _ (by simp)).mono ?_
    rintro e w' ⟨rfl, rfl⟩
    go_wp2_with fail
    go_ret
    refine ⟨ret_int ?_, (HQ.out.set 0 _).alloc _, ((HB1.out.mono (Nat.le_of_lt hqs)).setCell (p := ⟨q, 0, none⟩) (Nat.le_refl _) _).alloc (by simp [World.setCell]; omega) _⟩
    unfold msgE
    rw [HS.out]
    have hkd : decide (K = (k : Int) % 2) = _ := hkb
    rw [hkd]
    simp only [Bool.true_and, Bool.false_and]
    try rfl

set_option maxHeartbeats 400000 in
theorem each_msg (ms : List Msg) (a : Option Addr) (cap fid : Nat) (q : Addr) (w : World) (err : Nat → Int) (I : Nat → World → Prop) (hlen : ms.length ≤ 1000)
    (hcf : ∀ args w, Sem.run Try.prog (callFunc fid args) w = .ok (.enter fid args) w)
    (h0 : I 0 w) (hrd : ∀ k w', k < ms.length → I k w' → Reads w' a (ms.length * 3) (msgs ms)) (hal : ∀ k w' o, I k w' → I k (w'.alloc o))
    (hst : ∀ k w', k < ms.length → I k w' → Calls Try.prog fid #[.int .i64 k, .agg #[.int .i64 (mK ms k), .int .i64 (mS ms k), .int .i64 (mA ms k)], .pointer (some q)] w' fun e w'' => e = .returned (.int .i64 (err k)) ∧ I (k + 1) w'') :
    Calls Try.prog 81 #[.slice a ms.length cap, .func (.func fid) #[] #[.pointer (some q)]] w
      fun e w' => e = .returned (.tuple #[.int .i64 (eachR err 0 ms.length).1, .int .i64 (eachR err 0 ms.length).2]) ∧ ∃ k, k ≤ ms.length ∧ I k w' := by
  have HRD := Lib.hid hrd
  have HST := Lib.hid hst
  have HAL := Lib.hid hal
  have H0 := Lib.hid h0
  clear hrd hst h0 hal
  go_enter Try.func81, Try.ntmps81
  go_wp2_with fail
  go_loopw [6, 7, 8, 11] (fun _ _ _ i wr => ∃ k : Nat, k ≤ ms.length ∧ i = .int .i64 k ∧ Hid (eachR err 0 ms.length = eachR err k (ms.length - k)) ∧ Hid (I k wr)) (fun _ _ _ i _ => ms.length - (intOf i).toNat)
  case atStart => exact ⟨0, Nat.zero_le _, rfl, Lib.hid rfl, H0⟩
  case round =>
    obtain ⟨k, hk, rfl, hr, hI⟩ := hrel
    by_cases hlt : k < ms.length
    · obtain ⟨b, off, rfl, hb, hc⟩ := (HRD.out k _ hlt hI.out).at (k := k) (by omega)
      have c0 : wr.cell? ⟨b, off + k * 3, none⟩ = some (.int .i64 (mK ms k)) := (hc (k * 3) (by omega)).trans (by rw [msgs0])
      have c1 : wr.cell? ⟨b, off + k * 3 + 1, none⟩ = some (.int .i64 (mS ms k)) := (hc (k * 3 + 1) (by omega)).trans (by rw [msgs1])
      have c2 : wr.cell? ⟨b, off + k * 3 + 2, none⟩ = some (.int .i64 (mA ms k)) := (hc (k * 3 + 2) (by omega)).trans (by rw [msgs2])
      clear hc
      by_cases hz : err k = 0
      · have hz' : (err k != 0) = false := by simpa using hz
        have HZ := Lib.hid hz
        clear hz
        go_wp2_with fail
        refine (HST.out k _ hlt (HAL.out _ _ _ hI.out)).mono ?_
        rintro e w' ⟨rfl, hI'⟩
        have hI' := Lib.hid hI'
        go_wp2_with fail
        go_roundw
        case rel => exact ⟨k + 1, by omega, by go_num, hr.out.trans (eachR_step hlt HZ.out), hI'⟩
        case measure => simp [intOf]; omega
      · have hz' : (err k != 0) = true := by simpa using hz
        have HZ := Lib.hid hz
        clear hz
        go_wp2_with fail
        refine (HST.out k _ hlt (HAL.out _ _ _ hI.out)).mono ?_
        rintro e w' ⟨rfl, hI'⟩
        have hI' := Lib.hid hI'
        go_wp2_with fail
        go_ret2
        exact ⟨by rw [hr.out, eachR_stop hlt HZ.out]; rfl, k + 1, by omega, hI'⟩
    · have : k = ms.length := by omega
      subst this
      go_wp2
      go_ret2
      exact ⟨by rw [hr.out, Nat.sub_self]; rfl, ms.length, Nat.le_refl _, hI⟩

end Go.Proofs.Ytjieojkfpoiabaa

