/-
  The reference's Held and Count; that they answer as the program does.
-/
import Derived.Test.YtjieojkfpoiabaaH2
namespace Go.Proofs.Ytjieojkfpoiabaa
open Go.RowKit

theorem filter_first {p : Nat → Bool} {N j : Nat} {l : List Nat} (h : (List.range N).filter p = j :: l) : j < N ∧ p j = true ∧ ∀ i, i < j → p i = false := by
  obtain ⟨l1, l2, he, h1, h2, -⟩ := List.filter_eq_cons_iff.1 h
  have hlen : l1.length < N := by
    have := congrArg List.length he
    simp only [List.length_range, List.length_append, List.length_cons] at this
    omega
  have hj : j = l1.length := by
    have h3 : (List.range N)[l1.length]? = some j := by rw [he, List.getElem?_append_right (Nat.le_refl _)]; simp
    rw [List.getElem?_range hlen] at h3
    exact (Option.some.inj h3).symm
  refine ⟨by omega, h2, fun i hi => ?_⟩
  have h4 : (List.range N)[i]? = some i := List.getElem?_range (by omega)
  rw [he, List.getElem?_append_left (by omega)] at h4
  have := h1 i (List.mem_of_getElem? h4)
  simpa using this

theorem lateL_eq {ms : List Msg} {d u : Int} (h : MsOk ms d u) : lateL ms d u = lateN ms d u := by
  unfold lateL lateN lateMs
  rw [List.map_map]
  apply List.map_congr_left
  intro j hj
  unfold lateJ at hj
  have h1 := (List.mem_filter.1 hj).1
  simp only [List.mem_range] at h1
  have h2 := (h.step (2 * j) (by omega)).1
  show mS ms (2 * j) = (j : Int)
  rw [h2]; omega

def inT (ms : List Msg) (d : Int) (j : Nat) : Prop := 2 * j + 1 < ms.length ∧ mA ms (2 * j + 1) - mA ms (2 * j) ≤ d
theorem count_eq {ms : List Msg} {d u : Int} {n : Nat} (h : MsOk ms d u) (h1 : ∀ j, j < n → inT ms d j) (h2 : ¬ inT ms d n) : countE ms d u = n := by
  have hin : ∀ j, 2 * j + 1 < ms.length → isLate ms d u j = false → inT ms d j := by
    intro j hj hl
    unfold isLate endA at hl
    rw [if_pos hj] at hl
    have := of_decide_eq_false hl
    exact ⟨hj, by omega⟩
  unfold countE
  cases hJ : lateJ ms d u with
  | nil =>
    have hz : (lateMs ms d u).length = 0 := by unfold lateMs; rw [hJ]; rfl
    rw [if_pos hz]
    have hno : ∀ j, j < (ms.length + 1) / 2 → isLate ms d u j = false := by
      intro j hj
      cases hb : isLate ms d u j with
      | false => rfl
      | true =>
        have : j ∈ lateJ ms d u := List.mem_filter.2 ⟨by simpa using hj, hb⟩
        rw [hJ] at this; cases this
    have hn1 : n ≤ ms.length / 2 := by
      rcases n with _ | n
      · omega
      · have := (h1 n (by omega)).1; omega
    have hn2 : ¬ n < ms.length / 2 := fun hlt => h2 (hin n (by omega) (hno n (by omega)))
    have : n = ms.length / 2 := by omega
    rw [this]
  | cons j l =>
    have hz : ¬ (lateMs ms d u).length = 0 := by unfold lateMs; rw [hJ]; simp
    rw [if_neg hz]
    obtain ⟨hjN, hjl, hjf⟩ := filter_first (show (List.range ((ms.length + 1) / 2)).filter (isLate ms d u) = j :: l from hJ)
    have e1 : mS (lateMs ms d u) 0 = mS ms (2 * j) := by unfold lateMs; rw [hJ]; rfl
    rw [e1, (h.step (2 * j) (by omega)).1]
    have hnj : n = j := by
      rcases Nat.lt_trichotomy n j with hlt | heq | hgt
      · exact absurd (hin n (by omega) (hjf n hlt)) h2
      · exact heq
      · obtain ⟨i1, i2⟩ := h1 j hgt
        unfold isLate endA at hjl
        rw [if_pos i1] at hjl
        have := of_decide_eq_true hjl
        omega
    rw [hnj]; omega

/-- The first late step's tick. -/
def heldR (ms : List Msg) (d u : Int) : Int × Bool := match lateJ ms d u with | [] => (0, false) | j :: _ => (mA ms (2 * j) + d + 1, true)
theorem held_eq (ms : List Msg) (d u : Int) : ((heldR ms d u).2 = true ∧ heldE ms d u = ((heldR ms d u).1, 0)) ∨ ((heldR ms d u).2 = false ∧ heldE ms d u = (0, 12)) := by
  unfold heldE heldR
  cases hJ : lateJ ms d u with
  | nil => exact .inr ⟨rfl, by rw [if_pos (by unfold lateMs; rw [hJ]; rfl)]⟩
  | cons j l =>
    refine .inl ⟨rfl, ?_⟩
    rw [if_neg (by unfold lateMs; rw [hJ]; simp)]
    have e1 : mA (lateMs ms d u) 0 = mA ms (2 * j) := by unfold lateMs; rw [hJ]; rfl
    rw [e1]

set_option maxHeartbeats 800000 in
set_option maxRecDepth 100000 in
theorem rHeld_any (ms : List Msg) (a : Option Addr) (cap : Nat) (d u : Int) (w : World) (hok : MsOk ms d u) (hr : Reads w a (ms.length * 3) (msgs ms)) :
    Calls Try.prog 29 #[.slice a ms.length cap, .agg #[.int .i64 d, .int .i64 u]] w fun e w' => e = .returned (.tuple #[.int .i64 (heldR ms d u).1, .bool (heldR ms d u).2]) ∧ Below w.heap.size w w' := by
  have HR := Lib.hid hr
  have HL := Lib.hid (fun (W : World) h => rLate_any ms a cap d u W hok h)
  have hd1 := hok.d1
  have hd2 := hok.d2
  have hfew := hok.len
  have HT := Lib.hid hok.tick
  unfold heldR
  have HJ : Hid (∀ j l, lateJ ms d u = j :: l → j < (ms.length + 1) / 2) := Lib.hid (fun j l h => (filter_first (show (List.range ((ms.length + 1) / 2)).filter (isLate ms d u) = j :: l from h)).1)
  unfold lateN at HL
  clear hok hr
  cases hJ : lateJ ms d u with
  | nil =>
    rw [hJ] at HL
    simp only [List.map_nil, List.length_nil] at HL
    clear hJ HJ HT
    go_enter Try.func29, Try.ntmps29
    go_wp2_with fail
    refine (HL.out _ (HR.out.alloc _)).mono ?_
    rintro e w1 ⟨a1, c1, rfl, -, hb⟩
    have HB := Lib.hid (bThen (bAlloc (bSelf w) (.cells #[.int .i64 d, .int .i64 u] 45)) hb)
    clear hb
    go_wp2_with fail
    go_ret2
    exact ⟨rfl, HB.out⟩
  | cons j l =>
    have hj := HJ.out j l hJ
    rw [hJ] at HL
    simp only [List.map_cons, List.length_cons, List.length_map] at HL
    obtain ⟨i, hi⟩ : ∃ i, 2 * j = i := ⟨_, rfl⟩
    have hij : 2 * (j : Int) = (i : Int) := by omega
    have hil : i < ms.length := by omega
    have hA := HT.out i hil
    dsimp only
    rw [hi]
    obtain ⟨A, hAA⟩ : ∃ A, mA ms i = A := ⟨_, rfl⟩
    rw [hAA] at hA ⊢
    obtain ⟨b, off, rfl, hb0, hc⟩ := HR.out.at (k := i * 3) (by omega)
    have c9 : Hid (w.cell? ⟨b, off + i * 3 + 2, none⟩ = some (.int .i64 A)) := Lib.hid (by rw [Nat.add_assoc, hc _ (by omega), msgs2, hAA])
    have HI := Lib.hid hi
    clear hJ HJ HT hc hAA hi
    go_enter Try.func29, Try.ntmps29
    go_wp2_with fail
    refine (HL.out _ (HR.out.alloc _)).mono ?_
    rintro e w1 ⟨a1, c1, rfl, hl, hb⟩
    have HB := Lib.hid (bThen (bAlloc (bSelf w) (.cells #[.int .i64 d, .int .i64 u] 45)) hb)
    have K0 := Lib.hid ((Blk.new w #[.int .i64 d, .int .i64 u] 45).to hb)
    obtain ⟨b1, o1, rfl, hb1', hc1⟩ := hl.at (k := 0) (by omega)
    have c0 : Hid (w1.cell? ⟨b1, o1, none⟩ = some (.int .i64 j)) := Lib.hid (hc1 0 (by omega))
    have hz : (((l.length : Int) + 1) == 0) = false := by rw [beq_eq_false_iff_ne]; omega
    clear hb hl hc1
    go_wp2_with fail
    refine wp_region_quiet_all (fun w' => Below (World.heap w1).size (w1) w') (by kernel_rfl) (by kernel_rfl) (Below.refl _ _).drew ?_
    refine WQ.out ?_
    repeat (first | (refine WQ_no (by rfl) ?_; (simp only [Act.put, List.setIfInBounds_toArray, List.set_cons_zero, List.set_cons_succ])) | (refine WQ_yes (by rfl) ?_; apply Exists.intro; refine ⟨fun w1 hb1 => ?_, ?_⟩; (focus (((obtain ⟨-, k0, -⟩ := K0.out.to hb1; have k1 := (hb1.cell (p := ⟨b1, o1, none⟩) hb1').trans c0.out; have k9 := (hb1.cell (p := ⟨b, off + i * 3 + 2, none⟩) (Nat.lt_of_lt_of_le hb0 HB.out.size)).trans ((HB.out.cell (p := ⟨b, off + i * 3 + 2, none⟩) hb0).trans c9.out)); have hb1 := Lib.hid hb1; go_simp); (try (go_bits; try go_simp)); (try (rw [if_pos (by omega)]; try go_simp)); (first | done | (fail) | (with_reducible rfl) | exact rfl))); (simp only [Act.put, List.setIfInBounds_toArray, List.set_cons_zero, List.set_cons_succ])))
    refine WQ_nil ?_
    intro w1 hb1
    go_wp2_with fail
    go_ret2
    exact ⟨rfl, bThen HB.out hb1⟩

set_option maxHeartbeats 1600000 in
set_option maxRecDepth 100000 in
theorem rCount_any (ms : List Msg) (a : Option Addr) (cap : Nat) (d u : Int) (w : World) (hok : MsOk ms d u) (hr : Reads w a (ms.length * 3) (msgs ms)) :
    Calls Try.prog 31 #[.slice a ms.length cap, .agg #[.int .i64 d, .int .i64 u]] w fun e w' => e = .returned (.int .i64 (countE ms d u)) ∧ Below w.heap.size w w' := by
  have HCE : Hid (∀ n, (∀ j, j < n → inT ms d j) → ¬ inT ms d n → countE ms d u = n) := Lib.hid (fun n h1 h2 => count_eq hok h1 h2)
  have HR := Lib.hid hr
  have hfew := hok.len
  have HT := Lib.hid hok.tick
  obtain ⟨ce, hce⟩ : ∃ ce, countE ms d u = ce := ⟨_, rfl⟩
  rw [hce] at HCE ⊢
  clear hok hr hce
  go_enter Try.func31, Try.ntmps31
  go_wp2_with fail
  obtain ⟨W, hW⟩ : ∃ W, w.alloc (.cells #[.int .i64 d, .int .i64 u] 45) = W := ⟨_, rfl⟩
  rw [hW]
  have K0 : Hid (Blk W w.heap.size #[.int .i64 d, .int .i64 u]) := by subst hW; exact Lib.hid (Blk.new _ _ _)
  have HB : Hid (Below w.heap.size w W) := by subst hW; exact Lib.hid (bAlloc (bSelf w) _)
  have HRW : Hid (Reads W a (ms.length * 3) (msgs ms)) := by subst hW; exact Lib.hid (HR.out.alloc _)
  clear hW
  go_loopw [5] (fun v wr => ∃ n : Nat, 2 * n ≤ ms.length ∧ v = .int .i64 n ∧ Hid (∀ j, j < n → inT ms d j) ∧ Hid (Below W.heap.size W wr)) (fun v _ => ms.length - (intOf v).toNat)
  case atStart => exact ⟨0, by omega, rfl, Lib.hid (fun j h => by omega), Lib.hid (bSelf W)⟩
  case round =>
    obtain ⟨n, hn, rfl, hin, hbel⟩ := hrel
    obtain ⟨i, hi⟩ : ∃ i, 2 * n = i := ⟨_, rfl⟩
    have hij : 2 * (n : Int) = (i : Int) := by omega
    have K1 := Lib.hid (K0.out.to hbel.out)
    by_cases hlt : i + 1 < ms.length
    · obtain ⟨b, off, rfl, hb, hc⟩ := HRW.out.at (k := i * 3) (by omega)
      obtain ⟨A0, hA0⟩ : ∃ A0, mA ms i = A0 := ⟨_, rfl⟩
      obtain ⟨A1, hA1⟩ : ∃ A1, mA ms (i + 1) = A1 := ⟨_, rfl⟩
      have t0 := HT.out i (by omega)
      have t1 := HT.out (i + 1) hlt
      rw [hA0] at t0
      rw [hA1] at t1
      have c2 : Hid (wr.cell? ⟨b, off + i * 3 + 2, none⟩ = some (.int .i64 A0)) := Lib.hid ((hbel.out.cell (p := ⟨b, off + i * 3 + 2, none⟩) hb).trans (by rw [Nat.add_assoc, hc _ (by omega), msgs2, hA0]))
      have c5 : Hid (wr.cell? ⟨b, off + (i + 1) * 3 + 2, none⟩ = some (.int .i64 A1)) := Lib.hid ((hbel.out.cell (p := ⟨b, off + (i + 1) * 3 + 2, none⟩) hb).trans (by rw [Nat.add_assoc, hc _ (by omega), msgs2, hA1]))
      have hbr : b < wr.heap.size := Nat.lt_of_lt_of_le hb hbel.out.size
      have HIT : Hid (inT ms d n ↔ A1 - A0 ≤ d) := Lib.hid (by unfold inT; rw [hi, hA1, hA0]; exact ⟨fun h => h.2, fun h => ⟨hlt, h⟩⟩)
      have HI := Lib.hid hi
      clear hc hA0 hA1 hi
      have hltI : decide ((i : Int) + 1 < (ms.length : Int)) = true := decide_eq_true (by omega)
      by_cases hl : A1 - A0 ≤ d
      · go_wp2_with fail
        refine wp_region_quiet_all (fun w' => Below (World.heap wr).size (wr) w') (by kernel_rfl) (by kernel_rfl) (Below.refl _ _).drew ?_
        refine WQ.out ?_
        repeat (first | (refine WQ_no (by rfl) ?_; (simp only [Act.put, List.setIfInBounds_toArray, List.set_cons_zero, List.set_cons_succ])) | (refine WQ_yes (by rfl) ?_; apply Exists.intro; refine ⟨fun w1 hb1 => ?_, ?_⟩; (focus (((obtain ⟨-, k0, -⟩ := K1.out.to hb1; have k2 := (hb1.cell (p := ⟨b, off + i * 3 + 2, none⟩) hbr).trans c2.out; have k5 := (hb1.cell (p := ⟨b, off + (i + 1) * 3 + 2, none⟩) hbr).trans c5.out); have hb1 := Lib.hid hb1; go_simp); (try (go_bits; try go_simp)); (try (rw [if_pos (by omega)]; try go_simp)); (first | done | (fail) | (with_reducible rfl) | exact rfl))); (simp only [Act.put, List.setIfInBounds_toArray, List.set_cons_zero, List.set_cons_succ])))
        refine WQ_nil ?_
        intro w1 hb1
        have hbel2 := Lib.hid (hbel.out.trans (hb1.mono hbel.out.size))
        clear hb1
        go_wp2_with fail
        go_roundw
        case rel =>
          refine ⟨n + 1, by have := HI.out; omega, by go_num, Lib.hid (fun j hj => ?_), hbel2⟩
          by_cases h : j = n
          · subst h; exact HIT.out.2 hl
          · exact hin.out j (by omega)
        case measure => simp [intOf]; have := HI.out; omega
      · go_wp2_with fail
        refine wp_region_quiet_all (fun w' => Below (World.heap wr).size (wr) w') (by kernel_rfl) (by kernel_rfl) (Below.refl _ _).drew ?_
        refine WQ.out ?_
        repeat (first | (refine WQ_no (by rfl) ?_; (simp only [Act.put, List.setIfInBounds_toArray, List.set_cons_zero, List.set_cons_succ])) | (refine WQ_yes (by rfl) ?_; apply Exists.intro; refine ⟨fun w1 hb1 => ?_, ?_⟩; (focus (((obtain ⟨-, k0, -⟩ := K1.out.to hb1; have k2 := (hb1.cell (p := ⟨b, off + i * 3 + 2, none⟩) hbr).trans c2.out; have k5 := (hb1.cell (p := ⟨b, off + (i + 1) * 3 + 2, none⟩) hbr).trans c5.out); have hb1 := Lib.hid hb1; go_simp); (try (go_bits; try go_simp)); (try (rw [if_pos (by omega)]; try go_simp)); (first | done | (fail) | (with_reducible rfl) | exact rfl))); (simp only [Act.put, List.setIfInBounds_toArray, List.set_cons_zero, List.set_cons_succ])))
        refine WQ_nil ?_
        intro w1 hb1
        have hbel2 := Lib.hid (hbel.out.trans (hb1.mono hbel.out.size))
        clear hb1
        go_wp2_with fail
        go_ret
        exact ⟨ret_int (HCE.out n hin.out (fun h => by have := HIT.out.1 h; omega)).symm, HB.out.trans (hbel2.out.mono HB.out.size)⟩
    · have HN : Hid (¬ inT ms d n) := Lib.hid (fun h => by have := h.1; omega)
      have HI := Lib.hid hi
      have hltI : decide ((i : Int) + 1 < (ms.length : Int)) = false := decide_eq_false (by omega)
      clear hi
      go_wp2_with fail
      refine wp_region_quiet_all (fun w' => Below (World.heap wr).size (wr) w') (by kernel_rfl) (by kernel_rfl) (Below.refl _ _).drew ?_
      refine WQ.out ?_
      repeat (first | (refine WQ_no (by rfl) ?_; (simp only [Act.put, List.setIfInBounds_toArray, List.set_cons_zero, List.set_cons_succ])) | (refine WQ_yes (by rfl) ?_; apply Exists.intro; refine ⟨fun w1 hb1 => ?_, ?_⟩; (focus (((obtain ⟨-, k0, -⟩ := K1.out.to hb1); have hb1 := Lib.hid hb1; go_simp); (try (go_bits; try go_simp)); (try (rw [if_pos (by omega)]; try go_simp)); (first | done | (fail) | (with_reducible rfl) | exact rfl))); (simp only [Act.put, List.setIfInBounds_toArray, List.set_cons_zero, List.set_cons_succ])))
      refine WQ_nil ?_
      intro w1 hb1
      have hbel2 := Lib.hid (hbel.out.trans (hb1.mono hbel.out.size))
      clear hb1
      go_wp2_with fail
      go_ret
      exact ⟨ret_int (HCE.out n hin.out HN.out).symm, HB.out.trans (hbel2.out.mono HB.out.size)⟩

end Go.Proofs.Ytjieojkfpoiabaa
