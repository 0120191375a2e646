/-
  Texts of this claim, in their build order: D4.
-/
import Derived.Test.YtfdlhhinomjakaaHel16
import Derived.Test.YtfdlhhinomjakaaHel0

namespace Go.Proofs.Ytfdlhhinomjakaa
section
open Go.RowKit
attribute [local go_sem] Oper.semAt_some

/-- When the j-th step ends; is it late; all late ones. -/
def endA (ms : List Msg) (u : Int) (j : Nat) : Int := if 2 * j + 1 < ms.length then mA ms (2 * j + 1) else u
def isLate (ms : List Msg) (d u : Int) (j : Nat) : Bool := decide (d < endA ms u j - mA ms (2 * j))
def lateJ (ms : List Msg) (d u : Int) : List Nat := (List.range ((ms.length + 1) / 2)).filter (isLate ms d u)
def lateMs (ms : List Msg) (d u : Int) : List Msg := (lateJ ms d u).map fun j => mg ms (2 * j)
def mcells (l : List Msg) : List Value := l.flatMap fun p => [.int .i64 p.1, .int .i64 p.2.1, .int .i64 p.2.2]

theorem mg_cons (p : Msg) (l : List Msg) (i : Nat) : mg (p :: l) (i + 1) = mg l i := rfl
theorem mcells_get : ∀ (l : List Msg) (i : Nat), i < l.length * 3 → (mcells l)[i]? = some (msgs l i)
  | [], i, h => by simp at h
  | p :: l, i, h => by
    have hm : mcells (p :: l) = .int .i64 p.1 :: .int .i64 p.2.1 :: .int .i64 p.2.2 :: mcells l := rfl
    rw [hm]
    match i with
    | 0 => rfl
    | 1 => rfl
    | 2 => rfl
    | i + 3 =>
      simp only [List.getElem?_cons_succ]
      rw [mcells_get l i (by simp only [List.length_cons] at h; omega)]
      unfold msgs mK mS mA
      rw [show (i + 3) / 3 = i / 3 + 1 by omega, show (i + 3) % 3 = i % 3 by omega, mg_cons]

theorem rtMsg : RowTy Try.prog 53 99 3 24 (.agg #[.int .i64 0, .int .i64 0, .int .i64 0]) := by
  obtain ⟨i, h1, h2, h3, h4⟩ := info_parts (show (Try.prog.info? 99).map (fun i => (i.zero, i.size, i.bytes)) = some (some (.agg #[.int .i64 0, .int .i64 0, .int .i64 0]), 3, 24) by kernel_rfl)
  exact ⟨by kernel_rfl, ⟨i, h1, h2, h3, h4⟩, rfl, by omega, by omega⟩

/-- What the loop has gathered. -/
def LateI (ms : List Msg) (d u : Int) (n0 : Nat) (w : World) (pre : List Nat) (M : Nat → Prop) (W : World) : Prop :=
  OutI 53 99 3 n0 n0 w (pre.filter (isLate ms d u)).length (mcells ((pre.filter (isLate ms d u)).map fun j => mg ms (2 * j))) M W

set_option maxHeartbeats 1600000 in
set_option maxRecDepth 100000 in
theorem late_any (ms : List Msg) (a : Option Addr) (cap : Nat) (d u : Int) (w : World) (hlen : ms.length ≤ 1000) (hcap : ms.length ≤ cap) (hok : ∀ k, k < ms.length → 0 ≤ mA ms k ∧ mA ms k ≤ 1000000000000)
    (hd1 : 0 ≤ d) (hd2 : d ≤ 100000) (hu1 : 0 ≤ u) (hu2 : u ≤ 1000000000000) (hr : Reads w a (ms.length * 3) (msgs ms)) :
    Calls Try.prog 49 #[.slice a ms.length cap, .agg #[.int .i64 d, .int .i64 u]] w fun e w' => ∃ a' cap', e = .returned (.slice a' (lateMs ms d u).length cap') ∧ Reads w' a' ((lateMs ms d u).length * 3) (msgs (lateMs ms d u)) ∧ Below w.heap.size w w' := by
  have HOK := zH hok
  have hR := zH hr
  clear hok hr
  refine (callsIn_wide (n := 5)).1 ?_
  refine callsIn_of_wp_marks Try.func49 rfl trivial ?_ rfl
  simp only [Try.ntmps49, List.size_toArray, List.length_cons, List.length_nil, Nat.reduceAdd, Nat.reduceSub, Array.replicate_succ, Array.replicate_zero, List.push_toArray, List.append_toArray, List.nil_append, List.cons_append]
  gi_wp2_with fail
  refine ⟨trivial, (callsIn_wide.2 (Chunk_any a ms.length cap _)).mono ?_⟩
  rintro e w' ⟨rfl, rfl⟩
  obtain ⟨W1, hW1⟩ : ∃ W1, w.alloc (.cells #[.int .i64 d, .int .i64 u] 56) = W1 := ⟨_, rfl⟩
  rw [hW1]
  have hsz1 : W1.heap.size = w.heap.size + 1 := by subst hW1; simp
  have KC : Hid (Blk W1 w.heap.size #[.int .i64 d, .int .i64 u]) := by subst hW1; exact Blk.new _ _ _
  have HB1 : Hid (Below w.heap.size w W1) := by subst hW1; exact bAlloc (bSelf w) _
  have hR1 : Hid (Reads W1 a (ms.length * 3) (msgs ms)) := by subst hW1; exact hR.out.alloc _
  clear hW1
  obtain ⟨W3, hW3⟩ : ∃ W3, ((W1.alloc (.cells #[.slice none 0 0] 53)).alloc (.cells #[.slice a ms.length cap] 53)).alloc (.cells #[.int .i64 2] 3) = W3 := ⟨_, rfl⟩
  rw [hW3]
  have hsz3 : W3.heap.size = w.heap.size + 4 := by subst hW3; simp [hsz1]
  have KS : Hid (Blk W3 (w.heap.size + 2) #[.slice a ms.length cap]) := by subst hW3; exact (Blk.newAt _ _ _ (by simp [hsz1])).alloc _
  have KN : Hid (Blk W3 (w.heap.size + 3) #[.int .i64 2]) := by subst hW3; exact Blk.newAt _ _ _ (by simp [hsz1])
  have HB3 : Hid (Below W1.heap.size W1 W3) := by subst hW3; exact bAlloc (bAlloc (bAlloc (bSelf _) _) _) _
  have HO : Hid (LateI ms d u (w.heap.size + 1) W1 [] (fun k => k = w.heap.size + 1) W3) := by
    refine zH ⟨.slice none 0 0, ?_, World.ownsRow_nil _ _ _ _, by have := HB3.out; rwa [hsz1] at this, ?_, rfl, ?_⟩
    · subst hW3
      have := Boxed.new W1 53 (.slice none 0 0)
      rw [hsz1] at this
      exact (this.alloc _).alloc _
    · intro k hk; simp [Value.ownBlock] at hk
    · intro k hk; rw [hsz3]; omega
  have e2 : ((W1.alloc (.cells #[.slice none 0 0] 53)).heap.size) = w.heap.size + 2 := by simp [hsz1]
  rw [e2]
  clear hW3 e2
  have HS1 := zH hsz1
  clear hsz1
  have HS3 := zH hsz3
  clear hsz3
  obtain ⟨b, off, ha⟩ : ∃ b off, (0 < ms.length → a = some ⟨b, off, none⟩ ∧ b < w.heap.size ∧ ∀ i, i < ms.length * 3 → w.cell? ⟨b, off + i, none⟩ = some (msgs ms i)) := by
    by_cases h0 : 0 < ms.length
    · obtain ⟨b, off, h1, h2, h3⟩ := hR.out.at (k := 0) (by omega)
      exact ⟨b, off, fun _ => ⟨h1, h2, h3⟩⟩
    · exact ⟨0, 0, fun h => absurd h h0⟩
  have HA := zH ha
  clear ha
  gi_wp2_with fail
  refine wpIn_rangeFunc_M (xs := List.range ((ms.length + 1) / 2)) rfl (by intro args w; go_simp) (chunk1_in 4 ms.length b off a cap (w.heap.size + 2) (w.heap.size + 3) W3 (by omega) hcap (fun h => (HA.out h).1) KS.out KN.out) (bSelf _) (fun _ => rfl) ?hRd
    (LateI ms d u (w.heap.size + 1) W1) (fun _ _ _ => False) (fun k => k = w.heap.size + 1) ?hM (fun _ _ _ _ h hag => h.agree hag (by have := HS3.out; omega)) (fun _ _ _ _ _ h _ _ => h)
    (fun B pre j M1 a₁ W => LateI ms d u (w.heap.size + 1) W1 pre M1 W ∧ a₁ = { tmps := (B.tmps.setIfInBounds 10 (pairV b off ms.length j)).setIfInBounds 6 (pairV b off ms.length j), defers := [] })
    ?hI1 HO.out ?hassign ?hbody ?hdone (fun _ _ _ _ _ _ _ _ h _ => h.elim)
  case hRd =>
    have := HS3.out
    rintro k (rfl | rfl) <;> omega
  case hM =>
    have := HS3.out
    intro k hk
    subst hk
    exact ⟨by omega, by rintro (h | h) <;> omega⟩
  case hI1 =>
    rintro pre j M1 a₁ Wa Wb ⟨hI, rfl⟩ hag
    exact ⟨hI.agree hag (by have := HS3.out; omega), rfl⟩
  case hassign =>
    intro l pre j rest M1 Wa hxs hI hszA
    gi_wp2_with fail
    obtain ⟨-, -, -, -, -, -, hfit⟩ := id hI
    exact ⟨_, ⟨hI, rfl⟩, Upd.refl (fun k hk => (hfit k hk).1)⟩
  case hbody =>
    rintro l pre j rest M1 a₁ Wa hxs ⟨⟨v, hv, hrow, hB, hvm, hbm, hfit⟩, rfl⟩ hszA
    simp only [zzT, zzO, zzS]
    have hj : j < (ms.length + 1) / 2 := by
      have : j ∈ List.range ((ms.length + 1) / 2) := by rw [hxs]; simp
      simpa using this
    obtain ⟨rfl, hb, hcell⟩ := HA.out (by omega)
    have HBA : Hid (Below w.heap.size w Wa) := zH (HB1.out.trans (hB.mono (Nat.le_succ _)))
    have HKC : Hid (Blk Wa w.heap.size #[.int .i64 d, .int .i64 u]) := zH (KC.out.below hB (Nat.lt_succ_self _))
    obtain ⟨p, hp⟩ : ∃ p, off + 2 * j * 3 = p := ⟨_, rfl⟩
    have c0 : Hid (Wa.cell? ⟨b, p, none⟩ = some (.int .i64 (mK ms (2 * j)))) := zH ((HBA.out.cell (p := ⟨b, p, none⟩) hb).trans (by rw [← hp, hcell _ (by omega), msgs0]))
    have c1 : Hid (Wa.cell? ⟨b, p + 1, none⟩ = some (.int .i64 (mS ms (2 * j)))) := zH ((HBA.out.cell (p := ⟨b, p + 1, none⟩) hb).trans (by rw [← hp, Nat.add_assoc, hcell _ (by omega), msgs1]))
    have c2 : Hid (Wa.cell? ⟨b, p + 2, none⟩ = some (.int .i64 (mA ms (2 * j)))) := zH ((HBA.out.cell (p := ⟨b, p + 2, none⟩) hb).trans (by rw [← hp, Nat.add_assoc, hcell _ (by omega), msgs2]))
    have c5 : 2 * j + 1 < ms.length → Hid (Wa.cell? ⟨b, p + 3 + 2, none⟩ = some (.int .i64 (mA ms (2 * j + 1)))) := fun h => zH ((HBA.out.cell (p := ⟨b, p + 3 + 2, none⟩) hb).trans (by rw [← hp, show off + 2 * j * 3 + 3 + 2 = off + ((2 * j + 1) * 3 + 2) by omega, hcell _ (by omega), msgs2]))
    have hvc := hv.cell
    have HROW := zH hrow
    have HV := zH hv
    have HBE := zH hB
    have hA0 := HOK.out (2 * j) (by omega)
    have hA1 := HOK.out (2 * j + 1)
    clear hrow hv hB hcell
    obtain ⟨e0, he0⟩ : ∃ e0, endA ms u j = e0 := ⟨_, rfl⟩
    obtain ⟨A0, hA⟩ : ∃ A0, mA ms (2 * j) = A0 := ⟨_, rfl⟩
    rw [hA] at c2 hA0
    obtain ⟨-, kc, -⟩ := HKC.out
    have hbA : b < Wa.heap.size := Nat.lt_of_lt_of_le hb HBA.out.size
    obtain ⟨pn, hpn⟩ : ∃ pn, pairN ms.length j = pn := ⟨_, rfl⟩
    unfold pairV
    rw [hpn, hp]
    have hbd : 0 ≤ e0 ∧ e0 ≤ 1000000000000 := by
      rw [← he0]; unfold endA
      split
      · exact hA1 (by assumption)
      · exact ⟨hu1, hu2⟩
    have hcase : (pn = 2 ∧ ((2 * j + 1 < ms.length) ∧ Hid (Wa.cell? ⟨b, p + 3 + 2, none⟩ = some (.int .i64 e0)))) ∨ (pn = 1 ∧ e0 = u) := by
      by_cases hp2 : 2 * j + 1 < ms.length
      · refine .inl ⟨by rw [← hpn]; unfold pairN; rw [if_pos hp2], hp2, ?_⟩
        rw [← he0]; unfold endA; rw [if_pos hp2]
        exact c5 hp2
      · refine .inr ⟨by rw [← hpn]; unfold pairN; rw [if_neg hp2], ?_⟩
        rw [← he0]; unfold endA; rw [if_neg hp2]
    have hla : isLate ms d u j = decide (d < e0 - A0) := by unfold isLate; rw [he0, hA]
    have HLA := zH hla
    have HA0 := zH hA
    clear hla hA1 he0 hA c5 hpn hp
    have hfil : ∀ t : Bool, isLate ms d u j = t → (pre ++ [j]).filter (isLate ms d u) = pre.filter (isLate ms d u) ++ (if t then [j] else []) := by
      intro t ht
      rw [List.filter_append]
      subst ht
      simp only [List.filter_cons, List.filter_nil]
    have HF := zH hfil
    have hpl : (pre.filter (isLate ms d u)).length ≤ 1000 := by
      have h1 := List.length_filter_le (isLate ms d u) pre
      have h2 := congrArg List.length hxs
      simp only [List.length_range, List.length_append, List.length_cons] at h2
      omega
    clear hfil
    unfold LateI
    generalize hF : List.filter (isLate ms d u) pre = F at *
    clear hF
    rcases hcase with ⟨rfl, -, c5⟩ | ⟨rfl, hE⟩
    · have c5' := c5.out
      by_cases hl : d < e0 - A0
      · skip
        gi_wp2_with fail
        clear c5' kc hvc
        refine wpIn_region_quiet_all (fun w' => Below (World.heap Wa).size (Wa) w') (by kernel_rfl) (by kernel_rfl) (by kernel_rfl) (by rintro ⟨_, _, h⟩; exact h) (Below.refl _ _).drew ?_
        refine WQ.out ?_
        repeat (first | (refine WQ_no (by rfl) ?_; (simp only [Act.put, zzT, zzO, zzS])) | (refine WQ_yes (by rfl) ?_; apply Exists.intro; refine ⟨fun w1 hb1 => ?_, ?_⟩; (focus (((obtain ⟨-, k0, -⟩ := HKC.out.to hb1; have k2 := (hb1.cell (p := ⟨b, p + 2, none⟩) hbA).trans c2.out); have hb1 := zH hb1; go_simp); (try (go_bits; try go_simp)); (try (rw [if_pos (by omega)]; try go_simp)); (first | done | (with_reducible rfl) | exact rfl))); (simp only [Act.put, zzT, zzO, zzS])))
        refine WQ_nil ?_
        intro w1 hb1
        replace HBA := zH (bThen HBA.out hb1)
        have c0' := zH ((hb1.cell (p := ⟨b, p, none⟩) hbA).trans c0.out)
        have c1' := zH ((hb1.cell (p := ⟨b, p + 1, none⟩) hbA).trans c1.out)
        have c2' := zH ((hb1.cell (p := ⟨b, p + 2, none⟩) hbA).trans c2.out)
        have HV1 : Hid (Boxed w1 (w.heap.size + 1) 53 v) := zH (boxedTo HV.out hb1)
        have HROW1 := zH (owns_to HROW.out hb1)
        have hb1A : b < w1.heap.size := Nat.lt_of_lt_of_le hbA hb1.size
        have hsw : w.heap.size + 1 ≤ w1.heap.size := by have := hb1.size; have := (hfit _ hbm).1; omega
        have HW1 := zH hb1
        clear hb1
        gi_wp2_with fail
        refine wpIn_region_quiet_made 5 4 #[.int .i64 (mK ms (2 * j)), .int .i64 (mS ms (2 * j)), .int .i64 A0] (by kernel_rfl) (by kernel_rfl) (by kernel_rfl) (by omega) (by kernel_rfl) (by rintro ⟨_, _, h⟩; exact h) ?_
        simp only [List.take_succ_cons, List.take_zero, List.drop_succ_cons, List.drop_zero]
        refine WQ2.out ?_
        repeat (first | (refine WQ2_no (by rfl) ?_; (simp only [Act.put, zzT, zzO, zzS])) | (refine WQ2_yes (by rfl) (by decide) ?_; apply Exists.intro; refine ⟨fun w1 hb1 => ?_, ?_⟩; (focus (((have k1 := (hb1.cell (p := ⟨w.heap.size + 1, 0, none⟩) (Array.getElem?_eq_some_iff.1 HV1.out).1).trans HV1.out.cell; have c0 := (hb1.cell (p := ⟨b, p, none⟩) hb1A).trans c0'.out; have c1 := (hb1.cell (p := ⟨b, p + 1, none⟩) hb1A).trans c1'.out; have c2 := (hb1.cell (p := ⟨b, p + 2, none⟩) hb1A).trans c2'.out); have hb1 := zH hb1; go_simp); (try (go_bits; try go_simp)); (try (rw [if_pos (by omega)]; try go_simp)); (first | done | (with_reducible rfl) | exact rfl))); (simp only [Act.put, zzT, zzO, zzS])) | (refine WQ2_at (by rfl) rfl ?_; apply Exists.intro; refine ⟨fun w1 hb1 hs1 => ?_, ?_⟩; (focus ((have k1 := (hb1.cell (p := ⟨w.heap.size + 1, 0, none⟩) (Array.getElem?_eq_some_iff.1 HV1.out).1).trans HV1.out.cell; have c0 := (hb1.cell (p := ⟨b, p, none⟩) hb1A).trans c0'.out; have c1 := (hb1.cell (p := ⟨b, p + 1, none⟩) hb1A).trans c1'.out; have c2 := (hb1.cell (p := ⟨b, p + 2, none⟩) hb1A).trans c2'.out); have hb1 := zH hb1; (refine ⟨_, (by go_simp; exact ⟨rfl, rfl⟩), ?_, ?_⟩; (exact hb1.out.alloc hb1.out.size _); (exact Blk.newAt _ _ _ hs1)))); (simp only [Act.put, zzT, zzO, zzS])))
        refine WQ2_nil ?_
        intro w3 hb3 hk3
        have HV3 : Hid (Boxed w3 (w.heap.size + 1) 53 v) := zH (boxedTo HV1.out hb3)
        have HROW3 := zH (owns_to HROW1.out hb3)
        have HW3 := zH (bThen HW1.out hb3)
        have HNN := zH hk3.news
        have hsw3 : w.heap.size + 1 ≤ w3.heap.size := by have := hb3.size; omega
        clear hb3 hk3
        go_wp2_with (at_builtin; refine wpList_app (w.heap.size + 1) rtMsg rfl (.tmp 29) (.tmp 33) rfl v _ _ rfl HROW3.out ⟨w1.heap.size, 0, none⟩ 1 1 [.int .i64 (mK ms (2 * j)), .int .i64 (mS ms (2 * j)), .int .i64 A0] rfl rfl HNN.out (ones [mK ms (2 * j), mS ms (2 * j), A0]) (by unfold maxLen; omega) (by omega) (by omega) ?_; intro v' w4 hown' hgrow _ hwhere; obtain ⟨g', cap2, rfl⟩ := ownsRow_succ hown'; have hv4 := HV3.out.kept hgrow (HV3.out.not_row (by decide) HROW3.out); have hc4 := hv4.cell; have hf4 := hv4.frozen; have HO' := zH hown'; have HG := zH hgrow; have HWH := zH hwhere; clear hown' hgrow hwhere hv4)
        simp only [postM]
        rw [HF.out true (HLA.out.trans (decide_eq_true hl))]
        rw [if_pos rfl, List.length_append, List.map_append]
        refine OutI.app (by decide) HV.out HROW.out HBE.out hvm hbm hfit HW3.out ?_ HG.out HWH.out
        have := HO'.out
        rw [← HA0.out] at this
        simp only [mcells, List.flatMap_append] at this ⊢
        exact this
      · skip
        gi_wp2_with fail
        clear c5' kc hvc
        refine wpIn_region_quiet_all (fun w' => Below (World.heap Wa).size (Wa) w') (by kernel_rfl) (by kernel_rfl) (by kernel_rfl) (by rintro ⟨_, _, h⟩; exact h) (Below.refl _ _).drew ?_
        refine WQ.out ?_
        repeat (first | (refine WQ_no (by rfl) ?_; (simp only [Act.put, zzT, zzO, zzS])) | (refine WQ_yes (by rfl) ?_; apply Exists.intro; refine ⟨fun w1 hb1 => ?_, ?_⟩; (focus (((obtain ⟨-, k0, -⟩ := HKC.out.to hb1; have k2 := (hb1.cell (p := ⟨b, p + 2, none⟩) hbA).trans c2.out); have hb1 := zH hb1; go_simp); (try (go_bits; try go_simp)); (try (rw [if_pos (by omega)]; try go_simp)); (first | done | (with_reducible rfl) | exact rfl))); (simp only [Act.put, zzT, zzO, zzS])))
        refine WQ_nil ?_
        intro w1 hb1
        gi_wp2_with fail
        simp only [postM]
        rw [HF.out false (HLA.out.trans (decide_eq_false (by omega)))]
        simp only [Bool.false_eq_true, if_false, List.append_nil]
        exact ⟨M1, ⟨v, boxedTo HV.out hb1, owns_to HROW.out hb1, HBE.out.trans (hb1.mono (by have := (hfit _ hbm).1; omega)), hvm, hbm, fun k hk => ⟨Nat.lt_of_lt_of_le (hfit k hk).1 hb1.size, (hfit k hk).2⟩⟩, Upd.of_below (fun k hk => (hfit k hk).1) hb1⟩
    · subst hE
      by_cases hl : d < e0 - A0
      · skip
        gi_wp2_with fail
        clear kc hvc
        refine wpIn_region_quiet_all (fun w' => Below (World.heap Wa).size (Wa) w') (by kernel_rfl) (by kernel_rfl) (by kernel_rfl) (by rintro ⟨_, _, h⟩; exact h) (Below.refl _ _).drew ?_
        refine WQ.out ?_
        repeat (first | (refine WQ_no (by rfl) ?_; (simp only [Act.put, zzT, zzO, zzS])) | (refine WQ_yes (by rfl) ?_; apply Exists.intro; refine ⟨fun w1 hb1 => ?_, ?_⟩; (focus (((obtain ⟨-, k0, -⟩ := HKC.out.to hb1; have k2 := (hb1.cell (p := ⟨b, p + 2, none⟩) hbA).trans c2.out); have hb1 := zH hb1; go_simp); (try (go_bits; try go_simp)); (try (rw [if_pos (by omega)]; try go_simp)); (first | done | (with_reducible rfl) | exact rfl))); (simp only [Act.put, zzT, zzO, zzS])))
        refine WQ_nil ?_
        intro w1 hb1
        replace HBA := zH (bThen HBA.out hb1)
        have c0' := zH ((hb1.cell (p := ⟨b, p, none⟩) hbA).trans c0.out)
        have c1' := zH ((hb1.cell (p := ⟨b, p + 1, none⟩) hbA).trans c1.out)
        have c2' := zH ((hb1.cell (p := ⟨b, p + 2, none⟩) hbA).trans c2.out)
        have HV1 : Hid (Boxed w1 (w.heap.size + 1) 53 v) := zH (boxedTo HV.out hb1)
        have HROW1 := zH (owns_to HROW.out hb1)
        have hb1A : b < w1.heap.size := Nat.lt_of_lt_of_le hbA hb1.size
        have hsw : w.heap.size + 1 ≤ w1.heap.size := by have := hb1.size; have := (hfit _ hbm).1; omega
        have HW1 := zH hb1
        clear hb1
        gi_wp2_with fail
        refine wpIn_region_quiet_made 5 4 #[.int .i64 (mK ms (2 * j)), .int .i64 (mS ms (2 * j)), .int .i64 A0] (by kernel_rfl) (by kernel_rfl) (by kernel_rfl) (by omega) (by kernel_rfl) (by rintro ⟨_, _, h⟩; exact h) ?_
        simp only [List.take_succ_cons, List.take_zero, List.drop_succ_cons, List.drop_zero]
        refine WQ2.out ?_
        repeat (first | (refine WQ2_no (by rfl) ?_; (simp only [Act.put, zzT, zzO, zzS])) | (refine WQ2_yes (by rfl) (by decide) ?_; apply Exists.intro; refine ⟨fun w1 hb1 => ?_, ?_⟩; (focus (((have k1 := (hb1.cell (p := ⟨w.heap.size + 1, 0, none⟩) (Array.getElem?_eq_some_iff.1 HV1.out).1).trans HV1.out.cell; have c0 := (hb1.cell (p := ⟨b, p, none⟩) hb1A).trans c0'.out; have c1 := (hb1.cell (p := ⟨b, p + 1, none⟩) hb1A).trans c1'.out; have c2 := (hb1.cell (p := ⟨b, p + 2, none⟩) hb1A).trans c2'.out); have hb1 := zH hb1; go_simp); (try (go_bits; try go_simp)); (try (rw [if_pos (by omega)]; try go_simp)); (first | done | (with_reducible rfl) | exact rfl))); (simp only [Act.put, zzT, zzO, zzS])) | (refine WQ2_at (by rfl) rfl ?_; apply Exists.intro; refine ⟨fun w1 hb1 hs1 => ?_, ?_⟩; (focus ((have k1 := (hb1.cell (p := ⟨w.heap.size + 1, 0, none⟩) (Array.getElem?_eq_some_iff.1 HV1.out).1).trans HV1.out.cell; have c0 := (hb1.cell (p := ⟨b, p, none⟩) hb1A).trans c0'.out; have c1 := (hb1.cell (p := ⟨b, p + 1, none⟩) hb1A).trans c1'.out; have c2 := (hb1.cell (p := ⟨b, p + 2, none⟩) hb1A).trans c2'.out); have hb1 := zH hb1; (refine ⟨_, (by go_simp; exact ⟨rfl, rfl⟩), ?_, ?_⟩; (exact hb1.out.alloc hb1.out.size _); (exact Blk.newAt _ _ _ hs1)))); (simp only [Act.put, zzT, zzO, zzS])))
        refine WQ2_nil ?_
        intro w3 hb3 hk3
        have HV3 : Hid (Boxed w3 (w.heap.size + 1) 53 v) := zH (boxedTo HV1.out hb3)
        have HROW3 := zH (owns_to HROW1.out hb3)
        have HW3 := zH (bThen HW1.out hb3)
        have HNN := zH hk3.news
        have hsw3 : w.heap.size + 1 ≤ w3.heap.size := by have := hb3.size; omega
        clear hb3 hk3
        go_wp2_with (at_builtin; refine wpList_app (w.heap.size + 1) rtMsg rfl (.tmp 29) (.tmp 33) rfl v _ _ rfl HROW3.out ⟨w1.heap.size, 0, none⟩ 1 1 [.int .i64 (mK ms (2 * j)), .int .i64 (mS ms (2 * j)), .int .i64 A0] rfl rfl HNN.out (ones [mK ms (2 * j), mS ms (2 * j), A0]) (by unfold maxLen; omega) (by omega) (by omega) ?_; intro v' w4 hown' hgrow _ hwhere; obtain ⟨g', cap2, rfl⟩ := ownsRow_succ hown'; have hv4 := HV3.out.kept hgrow (HV3.out.not_row (by decide) HROW3.out); have hc4 := hv4.cell; have hf4 := hv4.frozen; have HO' := zH hown'; have HG := zH hgrow; have HWH := zH hwhere; clear hown' hgrow hwhere hv4)
        simp only [postM]
        rw [HF.out true (HLA.out.trans (decide_eq_true hl))]
        rw [if_pos rfl, List.length_append, List.map_append]
        refine OutI.app (by decide) HV.out HROW.out HBE.out hvm hbm hfit HW3.out ?_ HG.out HWH.out
        have := HO'.out
        rw [← HA0.out] at this
        simp only [mcells, List.flatMap_append] at this ⊢
        exact this
      · skip
        gi_wp2_with fail
        clear kc hvc
        refine wpIn_region_quiet_all (fun w' => Below (World.heap Wa).size (Wa) w') (by kernel_rfl) (by kernel_rfl) (by kernel_rfl) (by rintro ⟨_, _, h⟩; exact h) (Below.refl _ _).drew ?_
        refine WQ.out ?_
        repeat (first | (refine WQ_no (by rfl) ?_; (simp only [Act.put, zzT, zzO, zzS])) | (refine WQ_yes (by rfl) ?_; apply Exists.intro; refine ⟨fun w1 hb1 => ?_, ?_⟩; (focus (((obtain ⟨-, k0, -⟩ := HKC.out.to hb1; have k2 := (hb1.cell (p := ⟨b, p + 2, none⟩) hbA).trans c2.out); have hb1 := zH hb1; go_simp); (try (go_bits; try go_simp)); (try (rw [if_pos (by omega)]; try go_simp)); (first | done | (with_reducible rfl) | exact rfl))); (simp only [Act.put, zzT, zzO, zzS])))
        refine WQ_nil ?_
        intro w1 hb1
        gi_wp2_with fail
        simp only [postM]
        rw [HF.out false (HLA.out.trans (decide_eq_false (by omega)))]
        simp only [Bool.false_eq_true, if_false, List.append_nil]
        exact ⟨M1, ⟨v, boxedTo HV.out hb1, owns_to HROW.out hb1, HBE.out.trans (hb1.mono (by have := (hfit _ hbm).1; omega)), hvm, hbm, fun k hk => ⟨Nat.lt_of_lt_of_le (hfit k hk).1 hb1.size, (hfit k hk).2⟩⟩, Upd.of_below (fun k hk => (hfit k hk).1) hb1⟩
  case hdone =>
    intro D M1 Wd hD hMD hI hdef
    obtain ⟨v, hv, hrow, hB, hvm, hbm, hfit⟩ := hI
    have hvc := hv.cell
    have HROW := zH hrow
    have HBE := zH hB
    have HD := zH hdef
    clear hrow hB hdef
    gi_wp2_with fail
    refine ⟨by simp, .inl ⟨_, _, rfl, run_takeDeferred HD.out, ?_⟩⟩
    have hrow2 := ownsRow_putObj HROW.out (.deferred none) HD.out rfl
    have hl : (lateMs ms d u).length = ((List.range ((ms.length + 1) / 2)).filter (isLate ms d u)).length := by unfold lateMs lateJ; rw [List.length_map]
    obtain ⟨a', cap', rfl, -, hrd, -⟩ := Reads.of_row (f := msgs (lateMs ms d u)) hrow2 (fun i hi => mcells_get (lateMs ms d u) i (by rw [hl]; exact hi))
    rw [← hl] at hrd ⊢
    refine ⟨_, results_tmp rfl _ _ _, a', cap', rfl, hrd, ?_⟩
    exact (HB1.out.trans (HBE.out.mono (Nat.le_succ _))).trans ((Below.refl _ _).grown (grownBy_putObj' Wd D _) (by have := HBE.out.size; have := HB1.out.size; omega) (fun k e => by cases e; have := HS3.out; omega))
end
end Go.Proofs.Ytfdlhhinomjakaa
