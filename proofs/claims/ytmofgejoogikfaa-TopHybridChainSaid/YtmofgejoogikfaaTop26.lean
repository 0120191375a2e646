/-
  Texts of this claim, in their build order: Lib14 M1 M2.
-/
import Derived.Test.YtmofgejoogikfaaTop9
import Derived.Test.YtmofgejoogikfaaTop25
import Derived.Test.YtmofgejoogikfaaTop16
import Derived.Outline

/-
  Rows of records: s cells each, the j-th cell of the k-th record is f k j.
-/
namespace Go.Proofs.Ytmofgejoogikfaa
open Go.RowKit

/-- The cells of records. -/
def recs (s : Nat) (f : Nat → Nat → Value) (i : Nat) : Value := f (i / s) (i % s)
theorem recs_at {s : Nat} {f : Nat → Nat → Value} {k j : Nat} (h : j < s) : recs s f (k * s + j) = f k j := by
  unfold recs
  rw [Nat.mul_comm k s, Nat.mul_add_div (by omega), Nat.div_eq_of_lt h, Nat.mul_add_mod, Nat.mod_eq_of_lt h, Nat.add_zero]
theorem recs_at0 {s : Nat} {f : Nat → Nat → Value} {k : Nat} (h : 0 < s) : recs s f (k * s) = f k 0 := recs_at (j := 0) h
def rcells (s : Nat) (f : Nat → Nat → Value) (n : Nat) : List Value := (List.range (n * s)).map (recs s f)
theorem rcells_len (s : Nat) (f : Nat → Nat → Value) (n : Nat) : (rcells s f n).length = n * s := by simp [rcells]
theorem rcells_get {s : Nat} {f : Nat → Nat → Value} {n i : Nat} (h : i < n * s) : (rcells s f n)[i]? = some (recs s f i) := by
  unfold rcells; rw [List.getElem?_map, List.getElem?_range h]; rfl
theorem rcells_ext {s : Nat} {f : Nat → Nat → Value} {n : Nat} {l : List Value} (hl : l.length = n * s) (h : ∀ k j, k < n → j < s → l[k * s + j]? = some (f k j)) : l = rcells s f n := by
  refine List.ext_getElem? fun i => ?_
  by_cases hi : i < n * s
  · rw [rcells_get hi]
    have hs : 0 < s := by rcases Nat.eq_zero_or_pos s with e | e; · rw [e] at hi; omega
                          · exact e
    have h1 : i / s < n := Nat.div_lt_of_lt_mul (by rw [Nat.mul_comm]; exact hi)
    have := h (i / s) (i % s) h1 (Nat.mod_lt _ hs)
    rw [Nat.div_add_mod' i s] at this
    exact this
  · rw [List.getElem?_eq_none (by omega), List.getElem?_eq_none (by rw [rcells_len]; omega)]
/-- One record more. -/
theorem rcells_snoc (s : Nat) (f : Nat → Nat → Value) (n : Nat) {l : List Value} (hl : l.length = s) (h : ∀ j, j < s → l[j]? = some (f n j)) : rcells s f n ++ l = rcells s f (n + 1) := by
  refine rcells_ext (by rw [List.length_append, rcells_len, hl, Nat.succ_mul]) fun k j hk hj => ?_
  by_cases hkn : k < n
  · have hlt : k * s + j < n * s := by
      have : (k + 1) * s ≤ n * s := Nat.mul_le_mul_right _ hkn
      rw [Nat.succ_mul] at this; omega
    rw [List.getElem?_append_left (by rw [rcells_len]; exact hlt), rcells_get hlt, recs_at hj]
  · obtain rfl : k = n := by omega
    rw [List.getElem?_append_right (by rw [rcells_len]; omega), rcells_len, show k * s + j - k * s = j by omega]
    exact h j hj
theorem rcells_congr {s : Nat} {f g : Nat → Nat → Value} {n : Nat} (h : ∀ k j, k < n → j < s → f k j = g k j) : rcells s f n = rcells s g n :=
  rcells_ext (rcells_len _ _ _) fun k j hk hj => by
    have hlt : k * s + j < n * s := by
      have : (k + 1) * s ≤ n * s := Nat.mul_le_mul_right _ hk
      rw [Nat.succ_mul] at this; omega
    rw [rcells_get hlt, recs_at hj, h k j hk hj]
/-- What an append takes as its news. -/
theorem Reads.newsR {W : World} {ad : Addr} {n s : Nat} {f : Nat → Nat → Value} (h : Reads W (some ad) (n * s) (recs s f)) : ∀ j u, (rcells s f n)[j]? = some u → W.cell? (ad.add j) = some u := by
  intro j u hj
  have hjl : j < n * s := by rw [← rcells_len s f n]; exact (List.getElem?_eq_some_iff.1 hj).1
  obtain ⟨b, off, e, hb, hc⟩ := h.at hjl
  cases e
  have e : (⟨b, off, none⟩ : Addr).add j = ⟨b, off + j, none⟩ := by unfold Addr.add; split <;> simp_all
  rw [e, hc j hjl, ← hj, rcells_get hjl]
theorem onesR {s : Nat} {f : Nat → Nat → Value} {n : Nat} (h : ∀ k j, k < n → j < s → (f k j).oneCell' = true) : ∀ u ∈ rcells s f n, u.oneCell' = true := by
  intro u hu
  obtain ⟨i, hi, rfl⟩ := List.getElem_of_mem hu
  have hi2 : i < n * s := by rw [rcells_len] at hi; exact hi
  have hs : 0 < s := by rcases Nat.eq_zero_or_pos s with e | e; · rw [e] at hi2; omega
                        · exact e
  have e := rcells_get (f := f) hi2
  rw [List.getElem?_eq_getElem hi] at e
  injection e with e
  rw [e]
  exact h _ _ (Nat.div_lt_of_lt_mul (by rw [Nat.mul_comm]; exact hi2)) (Nat.mod_lt _ hs)

end Go.Proofs.Ytmofgejoogikfaa

/-
  Contracts of the small functions of package model.
-/
namespace Go.Proofs.Ytmofgejoogikfaa
open Go.RowKit

theorem mWithin_any (n lo hi : Int) (w : World) :
    Calls Try.prog 100 #[.int .i64 n, .int .i64 lo, .int .i64 hi] w fun e w' => e = .returned (.bool (decide (lo ≤ n) && decide (n ≤ hi))) ∧ w = w' := by
  go_enter Try.func100, Try.ntmps100
  go_wp2
  all_goals (go_ret; exact ⟨ret_bool (by simp; omega), rfl⟩)

theorem mUnless_any (b : Bool) (k : Int) (w : World) :
    Calls Try.prog 46 #[.bool b, .int .i64 k] w fun e w' => e = .returned (.int .i64 (unl b k)) ∧ w = w' := by
  go_enter Try.func46, Try.ntmps46
  cases b
  all_goals (go_wp2; go_ret; exact ⟨rfl, rfl⟩)

set_option maxHeartbeats 400000 in
theorem mFirst_any (es : List Int) (b off cap : Nat) (w : World) (hl : es.length ≤ 1000)
    (hc : ∀ i, i < es.length → w.cell? ⟨b, off + i, none⟩ = some (.int .i64 (gi es i))) :
    Calls Try.prog 45 #[.slice (some ⟨b, off, none⟩) es.length cap] w fun e w' => e = .returned (.int .i64 (firstE es)) ∧ w = w' := by
  go_enter Try.func45, Try.ntmps45
  have HC := Lib.hid hc
  clear hc
  go_wp2_with fail
  go_loop [4, 7] (fun _ i => ∃ k : Nat, k ≤ es.length ∧ i = .int .i64 k ∧ Hid (firstE es = firstE (es.drop k))) (fun _ i => es.length - (intOf i).toNat)
  case atStart => exact ⟨0, Nat.zero_le _, rfl, rfl⟩
  case round =>
    obtain ⟨k, hk, rfl, hr⟩ := hrel
    by_cases hlt : k < es.length
    · have h1 := HC.out k hlt
      have hd := Lib.hid (firstE_drop es k hlt)
      by_cases hz : gi es k = 0
      · have hz' : (gi es k != 0) = false := by simpa using hz
        have HZ := Lib.hid hz
        clear hz
        go_wp2
        go_round
        case rel => exact ⟨k + 1, by omega, by go_num, hr.out.trans (by rw [hd.out, if_pos HZ.out])⟩
        case measure => simp [intOf]; omega
      · have hz' : (gi es k != 0) = true := by simpa using hz
        have HZ := Lib.hid hz
        clear hz
        go_wp2
        go_ret
        exact ⟨ret_int (by rw [hr.out, hd.out, if_neg HZ.out]), rfl⟩
    · have : k = es.length := by omega
      subst this
      go_wp2
      go_ret
      exact ⟨ret_int (by rw [hr.out, List.drop_length]; rfl), rfl⟩

theorem mFirst2_new (a b : Int) (w : World) (B : Nat) (hB : w.heap.size = B) :
    Calls Try.prog 45 #[.slice (some ⟨B, 0, none⟩) 2 2] (w.alloc (.cells #[.int .i64 a, .int .i64 b] 36)) fun e w' => e = .returned (.int .i64 (firstE [a, b])) ∧ w.alloc (.cells #[.int .i64 a, .int .i64 b] 36) = w' :=
  mFirst_any [a, b] _ 0 2 _ (by simp) (fun i hi => by
    match i, hi with
    | 0, _ => subst hB; simp [World.cell?_alloc_new, gi]
    | 1, _ => subst hB; simp [World.cell?_alloc_new, gi])

theorem mSized_any (n m : Int) (w : World) (h0 : 0 ≤ m) (h1 : m ≤ 1000000000000000000) :
    Calls Try.prog 49 #[.int .i64 n, .int .i64 m] w fun e w' => e = .returned (.bool (decide (-m ≤ n) && decide (n ≤ m))) ∧ w = w' := by
  go_enter Try.func49, Try.ntmps49
  go_wp2_with (go_at_call 100; refine (mWithin_any _ _ _ _).mono ?_; rintro e w' ⟨rfl, rfl⟩)
  go_ret
  exact ⟨rfl, rfl⟩

/-- A force of a storey. -/
theorem mForce_ok (i : Nat) (n : Int) (w : World) (h0 : -1000000 ≤ n) (h1 : n ≤ 1000000) :
    Calls Try.prog 48 #[.int .i64 i, .int .i64 n] w fun e w' => e = .returned (.int .i64 0) ∧ w = w' := by
  go_enter Try.func48, Try.ntmps48
  have hd : (decide (-1000000 ≤ n) && decide (n ≤ 1000000)) = true := by simp; omega
  have HD := Lib.hid hd
  clear hd
  go_wp2_with (first | (go_at_call 49; refine (mSized_any _ _ _ (by omega) (by omega)).mono ?_; rintro e w' ⟨rfl, rfl⟩; rw [HD.out]) | (go_at_call 46; refine (mUnless_any _ _ _).mono ?_; rintro e w' ⟨rfl, rfl⟩))
  go_ret
  exact ⟨rfl, rfl⟩

set_option maxHeartbeats 800000 in
set_option maxRecDepth 100000 in
theorem mDivisor_pos (x y : Int) (w : World) (hx0 : -9223372036854775808 ≤ x) (hx1 : x ≤ 9223372036854775807) (hy0 : 0 < y) (hy1 : y ≤ 9223372036854775807) :
    Calls Try.prog 52 #[.int .i64 x, .int .i64 y] w fun e w' => e = .returned (.int .i64 (Int.gcd x y : Nat)) ∧ Below w.heap.size w w' := by
  go_enter Try.func52, Try.ntmps52
  go_wp2_with fail
  go_loopw [0, 1] (fun p q wr => ∃ x' y' : Int, p = .int .i64 x' ∧ q = .int .i64 y' ∧ Hid (Int.gcd x' y' = Int.gcd x y) ∧ -9223372036854775808 ≤ x' ∧ x' ≤ 9223372036854775807 ∧ -9223372036854775807 ≤ y' ∧ y' ≤ 9223372036854775807 ∧ Hid (-9223372036854775807 ≤ x' ∨ 0 < y') ∧ Hid (Below w.heap.size w wr)) (fun _ q _ => (intOf q).natAbs)
  case atStart => exact ⟨x, y, rfl, rfl, Lib.hid rfl, hx0, hx1, by omega, hy1, Lib.hid (.inr hy0), Lib.hid (bSelf w)⟩
  case round =>
    obtain ⟨x', y', rfl, rfl, hg, hx0', hx1', hy0', hy1', hc, hb⟩ := hrel
    by_cases h0 : y' = 0
    · subst h0
      have hx2 : -9223372036854775807 ≤ x' := by have := hc.out; omega
      go_wp2_with fail
      all_goals
        go_ret
        refine ⟨ret_int ?_, hb.out⟩
        rw [← hg.out]
        simp only [Int.gcd_zero_right]
        omega
    · have h0' : (y' == 0) = false := by simpa using h0
      have hcc := hc.out
      have hm : (x'.tmod y').natAbs < y'.natAbs := by rw [Int.natAbs_tmod]; exact Nat.mod_lt _ (by omega)
      have hng : ¬ (x' = -9223372036854775808 ∧ y' = -1) := by omega
      have HM := Lib.hid hm
      clear hm hcc
      go_wp2_with fail
      refine wp_region_quiet_all (fun w' => Below (World.heap wr).size (wr) w') (by kernel_rfl) (by kernel_rfl) (Below.refl _ _).drew ?_
      refine WQ.out ?_
      repeat (first | (refine WQ_no (by rfl) ?_; (simp only [Act.put, List.setIfInBounds_toArray, List.set_cons_zero, List.set_cons_succ])) | (refine WQ_yes (by rfl) ?_; apply Exists.intro; refine ⟨fun w1 hb1 => ?_, ?_⟩; (focus ((skip; have hb1 := Lib.hid hb1; go_simp); (try (go_bits; try go_simp)); (try (rw [if_pos (by omega)]; try go_simp)); (first | done | (fail) | (with_reducible rfl) | exact rfl))); (simp only [Act.put, List.setIfInBounds_toArray, List.set_cons_zero, List.set_cons_succ])))
      refine WQ_nil ?_
      intro w1 hb1
      have hb2 := Lib.hid (bThen hb.out hb1)
      clear hb1
      go_wp2_with fail
      go_roundw
      case rel => have hm := HM.out; exact ⟨y', x'.tmod y', rfl, rfl, Lib.hid (gcd_step.trans hg.out), by omega, by omega, by omega, by omega, Lib.hid (.inl (by omega)), hb2⟩
      case measure => exact HM.out

end Go.Proofs.Ytmofgejoogikfaa

/-
  Springs and frames of package model, those that a chain's stiffnesses make: the checks.
-/
namespace Go.Proofs.Ytmofgejoogikfaa
open Go.RowKit

/-- The elements of a storey of a stiffness: one, or two that share it. -/
def elN (k : Int) : Nat := if 1 < k then 2 else 1
def elS (k : Int) (j : Nat) : Int := if 1 < k then (if j = 0 then 1 else k - 1) else k
def elY (k : Int) (j : Nat) : Int := if 1 < k then (if j = 0 then 9 else 2) else 1
def elB (k : Int) (j : Nat) : Bool := decide (1 < k) && decide (j = 0)
def elF (k : Int) (j i : Nat) : Value := if i = 0 then .int .i64 (elS k j) else if i = 1 then .int .i64 (elY k j) else .bool (elB k j)
theorem elN_pos (k : Int) : 0 < elN k := by unfold elN; split <;> omega
theorem elN_two (k : Int) : elN k ≤ 2 := by unfold elN; split <;> omega
theorem el_bd {k : Int} (h : 1 ≤ k ∧ k ≤ 20) (j : Nat) : 1 ≤ elS k j ∧ elS k j ≤ 1000 ∧ 1 ≤ elY k j ∧ elY k j ≤ 1000 := by
  unfold elS elY; split <;> (try split) <;> omega
/-- The floors. -/
def flF (ks : List Int) (sp : Nat → Option Addr × Nat) (k i : Nat) : Value := if i = 0 then .int .i64 ((k : Int) + 1) else if i = 1 then .int .i64 1 else .slice (sp k).1 (elN (gi ks k)) (sp k).2
/-- So many floors in memory. -/
structure FrameAt (W : World) (a : Option Addr) (n : Nat) (ks : List Int) (sp : Nat → Option Addr × Nat) : Prop where
  fl : Reads W a (n * 3) (recs 3 (flF ks sp))
  el : ∀ k, k < n → Reads W (sp k).1 (elN (gi ks k) * 3) (recs 3 (elF (gi ks k)))
theorem FrameAt.to {W W' : World} {a : Option Addr} {n : Nat} {ks : List Int} {sp : Nat → Option Addr × Nat} (h : FrameAt W a n ks sp) (hb : Below W.heap.size W W') : FrameAt W' a n ks sp :=
  ⟨h.fl.to hb, fun k hk => (h.el k hk).to hb⟩

theorem mElement_ok (i : Nat) (s y : Int) (b : Bool) (w : World) (h : 1 ≤ s ∧ s ≤ 1000 ∧ 1 ≤ y ∧ y ≤ 1000) :
    Calls Try.prog 130 #[.int .i64 i, .agg #[.int .i64 s, .int .i64 y, .bool b]] w fun e w' => e = .returned (.int .i64 0) ∧ Below w.heap.size w w' := by
  go_enter Try.func130, Try.ntmps130
  have h1 := Lib.hid (show (decide (1 ≤ s) && decide (s ≤ 1000)) = true by simp; omega)
  have h2 := Lib.hid (show (decide (1 ≤ y) && decide (y ≤ 1000)) = true by simp; omega)
  clear h
  go_wp2_with (first | (go_at_call 100; refine (mWithin_any _ _ _ _).mono ?_; rintro e w' ⟨rfl, rfl⟩; (first | rw [h1.out] | rw [h2.out])) | (go_at_call 46; refine (mUnless_any _ _ _).mono ?_; rintro e w' ⟨rfl, rfl⟩))
  all_goals (go_ret; exact ⟨rfl, bAlloc (bSelf w) _⟩)

set_option maxHeartbeats 800000 in
set_option maxRecDepth 100000 in
theorem mEachEl_ok (n : Nat) (K : Int) (a : Option Addr) (cap fid : Nat) (bx : Array Value) (w : World) (hlen : n ≤ 1000)
    (hcf : ∀ args w, Sem.run Try.prog (callFunc fid args) w = .ok (.enter fid args) w)
    (hrd : Reads w a (n * 3) (recs 3 (elF K)))
    (hst : ∀ k W, k < n → Below w.heap.size w W → Calls Try.prog fid (#[.int .i64 k, .agg #[.int .i64 (elS K k), .int .i64 (elY K k), .bool (elB K k)]] ++ bx) W fun e w'' => e = .returned (.int .i64 0) ∧ Below W.heap.size W w'') :
    Calls Try.prog 129 #[.slice a n cap, .func (.func fid) #[] bx] w
      fun e w' => e = .returned (.tuple #[.int .i64 0, .int .i64 0]) ∧ Below w.heap.size w w' := by
  have HRD := Lib.hid hrd
  have HST := Lib.hid hst
  clear hrd hst
  go_enter Try.func129, Try.ntmps129
  go_wp2_with fail
  go_loopw [6, 8, 11] (fun _ _ i wr => ∃ k : Nat, k ≤ n ∧ i = .int .i64 k ∧ Hid (Below w.heap.size w wr)) (fun _ _ i _ => n - (intOf i).toNat)
  case atStart => exact ⟨0, Nat.zero_le _, rfl, Lib.hid (bSelf w)⟩
  case round =>
    obtain ⟨k, hk, rfl, hI⟩ := hrel
    by_cases hlt : k < n
    · have hltI : decide ((k : Int) < (n : Int)) = true := decide_eq_true (by omega)
      obtain ⟨b, off, rfl, hb, hc⟩ := (HRD.out.to hI.out).at (k := k * 3) (by omega)
      have HSK := Lib.hid (fun W => HST.out k W hlt)
      have k0 : wr.cell? ⟨b, off + k * 3, none⟩ = some (.int .i64 (elS K k)) := by rw [hc _ (by omega), recs_at0 (by decide)]; rfl
      have k1 : wr.cell? ⟨b, off + k * 3 + 1, none⟩ = some (.int .i64 (elY K k)) := by rw [Nat.add_assoc, hc _ (by omega), recs_at (by decide)]; rfl
      have k2 : wr.cell? ⟨b, off + k * 3 + 2, none⟩ = some (.bool (elB K k)) := by rw [Nat.add_assoc, hc _ (by omega), recs_at (by decide)]; rfl
      clear hc
      go_wp2_with fail
      refine (HSK.out _ (bAlloc hI.out _)).mono ?_
      rintro e w' ⟨rfl, hI'⟩
      have hI' := Lib.hid (bThen (bAlloc hI.out _) hI')
      go_wp2_with fail
      go_roundw
      case rel => exact ⟨k + 1, by omega, by go_num, hI'⟩
      case measure => simp [intOf]; omega
    · have hltI : decide ((k : Int) < (n : Int)) = false := decide_eq_false (by omega)
      go_wp2_with fail
      go_ret2
      exact ⟨rfl, hI.out⟩

set_option maxHeartbeats 800000 in
set_option maxRecDepth 100000 in
theorem mCheckSpring_ok (K : Int) (a : Option Addr) (cap : Nat) (w : World) (hK : 1 ≤ K ∧ K ≤ 20) (hrd : Reads w a (elN K * 3) (recs 3 (elF K))) :
    Calls Try.prog 99 #[.slice a (elN K) cap] w fun e w' => e = .returned (.tuple #[.int .i64 0, .int .i64 0]) ∧ Below w.heap.size w w' := by
  have h1 := elN_pos K
  have h2 := elN_two K
  have HE := Lib.hid (fun W (hb : Below w.heap.size w W) => mEachEl_ok (elN K) K a cap 130 #[] W (by omega) (by intros; kernel_rfl) (hrd.to hb) (fun k W' hk hW' => mElement_ok k _ _ _ W' (el_bd hK k)))
  obtain ⟨n, hn⟩ : ∃ n, elN K = n := ⟨_, rfl⟩
  rw [hn] at h1 h2 HE ⊢
  clear hn hrd hK
  have d1 : decide ((0 : Int) < (n : Int)) = true := decide_eq_true (by omega)
  have d2 : decide ((n : Int) ≤ 4) = true := decide_eq_true (by omega)
  go_enter Try.func99, Try.ntmps99
  go_wp2_with (first | (go_at_call 46; refine (mUnless_any _ _ _).mono ?_; rintro e w' ⟨rfl, rfl⟩) | (go_at_call 45; refine (mFirst2_new _ _ _ _ (by simp)).mono ?_; rintro e w' ⟨rfl, rfl⟩))
  refine (HE.out _ (bAlloc (bSelf w) _)).mono ?_
  rintro e w' ⟨rfl, hb⟩
  have hb := Lib.hid (bThen (bAlloc (bSelf w) _) hb)
  go_wp2_with fail
  go_ret2
  exact ⟨rfl, hb.out⟩

end Go.Proofs.Ytmofgejoogikfaa

