/-
  The reference's side of messages: CopyMessages, CheckMessages, ClockErr.
-/
import Derived.Test.YtjieojkfpoiabaaE6
import Derived.Test.YtjieojkfpoiabaaLib9
namespace Go.Proofs.Ytjieojkfpoiabaa
open Go.RowKit

/-- The cells of messages that read so. -/
theorem Reads.newsM {W : World} {ad : Addr} {ms : List Msg} (h : Reads W (some ad) (ms.length * 3) (msgs ms)) :
    ∀ j u, (mcells ms)[j]? = some u → W.cell? (ad.add j) = some u := by
  intro j u hj
  have hjl : j < ms.length * 3 := by rw [← mcells_len]; exact (List.getElem?_eq_some_iff.1 hj).1
  obtain ⟨b, off, e, hb, hc⟩ := h.at hjl
  cases e
  have e : (⟨b, off, none⟩ : Addr).add j = ⟨b, off + j, none⟩ := by unfold Addr.add; split <;> simp_all
  rw [e, hc j hjl, ← hj, mcells_get ms j hjl]
theorem onesM (l : List Msg) : ∀ u ∈ mcells l, u.oneCell' = true := by
  intro u hu
  obtain ⟨p, _, hp⟩ := List.mem_flatMap.1 hu
  simp only [List.mem_cons, List.not_mem_nil, or_false] at hp
  rcases hp with rfl | rfl | rfl <;> rfl

set_option maxHeartbeats 400000 in
set_option maxRecDepth 100000 in
theorem CopyMessages_any (ms : List Msg) (a : Option Addr) (cap : Nat) (w : World) (hfew : ms.length ≤ 100000) (hr : Reads w a (ms.length * 3) (msgs ms)) :
    Calls Try.prog 23 #[.slice a ms.length cap] w fun e w' => ∃ a' cap', e = .returned (.slice a' ms.length cap') ∧ ms.length ≤ cap' ∧ Reads w' a' (ms.length * 3) (msgs ms) ∧ Below w.heap.size w w' ∧ ∀ p, a' = some p → w.heap.size ≤ p.block := by
  cases a with
  | none =>
    have h0 : ms.length = 0 := by
      rcases hr with h | ⟨b, off, e, -⟩
      · omega
      · cases e
    rw [h0]
    go_enter Try.func23, Try.ntmps23
    go_wp2_with fail
    go_ret
    exact ⟨_, _, rfl, by omega, .inl rfl, bAlloc (bSelf w) _, fun p hp => by cases hp; exact Nat.le_refl _⟩
  | some ad =>
    have HR := Lib.hid hr
    clear hr
    have HN := Lib.hid (Reads.newsM (HR.out.alloc (.cells #[] 61)))
    have hcl := Lib.hid (mcells_len ms)
    go_enter Try.func23, Try.ntmps23
    go_wp2_with (at_builtin; refine wpList_app w.heap.size rtMsg rfl (.tmp 3) (.tmp 4) rfl (.slice (some ⟨w.heap.size, 0, none⟩) 0 0) 0 [] rfl (World.ownsRow_lit w #[] 0 (Nat.le_refl _) (by decide) rfl) ad ms.length cap (mcells ms) rfl hcl.out HN.out (onesM _) (by unfold maxLen; omega) (by omega) (by simp) ?_; intro v' w2 hown' hgrow _ hwhere; have HO := Lib.hid hown'; have HBB : Hid (Below w.heap.size w w2) := Lib.hid ((bAlloc (bSelf w) _).grown hgrow (by simp) (fun k e => by cases e; exact Nat.le_refl _)); clear hown' hgrow hwhere)
    go_ret
    have hrow := HO.out
    rw [Nat.zero_add, List.nil_append] at hrow
    obtain ⟨a', cap', rfl, hcp, hrd, hfr⟩ := Reads.of_row (f := msgs ms) hrow (fun i hi => mcells_get ms i hi)
    exact ⟨a', cap', rfl, hcp, hrd, HBB.out, hfr⟩

theorem msg_kind {k : Nat} {K S A last : Int} (h : (decide (0 ≤ K) && decide (K ≤ 1)) = false) : msgE k K S A last = 15 := by
  unfold msgE; rw [h]; rfl
theorem msg_range {k : Nat} {K S A last : Int} (h1 : (decide (0 ≤ K) && decide (K ≤ 1)) = true) (h2 : (decide (0 ≤ S) && decide (S ≤ 60) && (decide (0 ≤ A) && decide (A ≤ 1000000000000))) = false) : msgE k K S A last = 2 := by
  unfold msgE; rw [h1, h2]; rfl
theorem msg_order {k : Nat} {K S A last : Int} (h1 : (decide (0 ≤ K) && decide (K ≤ 1)) = true) (h2 : (decide (0 ≤ S) && decide (S ≤ 60) && (decide (0 ≤ A) && decide (A ≤ 1000000000000))) = true) (h3 : ¬ last ≤ A) : msgE k K S A last = 9 := by
  unfold msgE; rw [h1, h2, decide_eq_false h3]; rfl
theorem msg_gap {k : Nat} {K S A last : Int} (h1 : (decide (0 ≤ K) && decide (K ≤ 1)) = true) (h2 : (decide (0 ≤ S) && decide (S ≤ 60) && (decide (0 ≤ A) && decide (A ≤ 1000000000000))) = true) (h3 : last ≤ A) (h4 : ¬ (K = k % 2 ∧ S = k / 2)) : msgE k K S A last = 14 := by
  unfold msgE; rw [h1, h2, decide_eq_true h3, ← Bool.decide_and, decide_eq_false h4]; rfl
theorem msg_good {k : Nat} {K S A last : Int} (h1 : (decide (0 ≤ K) && decide (K ≤ 1)) = true) (h2 : (decide (0 ≤ S) && decide (S ≤ 60) && (decide (0 ≤ A) && decide (A ≤ 1000000000000))) = true) (h3 : last ≤ A) (h4 : K = k % 2 ∧ S = k / 2) : msgE k K S A last = 0 := by
  unfold msgE; rw [h1, h2, decide_eq_true h3, ← Bool.decide_and, decide_eq_true h4]; rfl

set_option maxHeartbeats 1600000 in
set_option maxRecDepth 100000 in
theorem rCheckMessages_any (ms : List Msg) (a : Option Addr) (cap : Nat) (w : World) (hlen : ms.length ≤ maxLen) (hr : Reads w a (ms.length * 3) (msgs ms)) :
    Calls Try.prog 27 #[.slice a ms.length cap] w fun e w' => e = .returned (.tuple #[.int .i64 (chkM ms).1, .int .i64 (chkM ms).2]) ∧ Below w.heap.size w w' := by
  unfold maxLen at hlen
  have HR := Lib.hid hr
  clear hr
  unfold chkM
  by_cases hl : 60 < ms.length
  · rw [if_pos hl]
    go_enter Try.func27, Try.ntmps27
    go_wp2_with fail
    go_ret2
    exact ⟨rfl, bSelf w⟩
  · rw [if_neg hl]
    have hl2 : ms.length ≤ 60 := by omega
    go_enter Try.func27, Try.ntmps27
    go_wp2_with fail
    go_loopw [4] (fun i wr => ∃ k : Nat, k ≤ ms.length ∧ i = .int .i64 k ∧ Hid (eachR (msE ms) 0 ms.length = eachR (msE ms) k (ms.length - k)) ∧ Hid (Below w.heap.size w wr)) (fun i _ => ms.length - (intOf i).toNat)
    case atStart => exact ⟨0, Nat.zero_le _, rfl, Lib.hid rfl, Lib.hid (bSelf w)⟩
    case round =>
      obtain ⟨k, hk, rfl, he, hB⟩ := hrel
      by_cases hlt : k < ms.length
      · rcases k with _ | n
        · obtain ⟨b, off, rfl, hb, hc⟩ := (HR.out.to hB.out).at (k := 0 * 3) (by omega)
          have hmsE : msE ms 0 = msgE 0 (mK ms 0) (mS ms 0) (mA ms 0) (lastA ms 0) := rfl
          obtain ⟨K, hK⟩ : ∃ K, mK ms 0 = K := ⟨_, rfl⟩
          obtain ⟨S, hS⟩ : ∃ S, mS ms 0 = S := ⟨_, rfl⟩
          obtain ⟨A, hA⟩ : ∃ A, mA ms 0 = A := ⟨_, rfl⟩
          have hla : lastA ms 0 = 0 := rfl
          have c0 : wr.cell? ⟨b, off, none⟩ = some (.int .i64 K) := (hc 0 (by omega)).trans (by rw [← hK]; exact congrArg some (msgs0 ms 0))
          have c1 : wr.cell? ⟨b, off + 1, none⟩ = some (.int .i64 S) := (hc 1 (by omega)).trans (by rw [← hS]; exact congrArg some (msgs1 ms 0))
          have c2 : wr.cell? ⟨b, off + 2, none⟩ = some (.int .i64 A) := (hc 2 (by omega)).trans (by rw [← hA]; exact congrArg some (msgs2 ms 0))
          rw [hK, hS, hA, hla] at hmsE
          have HME := Lib.hid hmsE
          clear hc hmsE hK hS hA hla
          have hbw : b < wr.heap.size := hb
          have hbel1 := Lib.hid (bAlloc hB.out (.cells #[.int .i64 K, .int .i64 S, .int .i64 A] 61))
          cases h1 : (decide (0 ≤ K) && decide (K ≤ 1))
          · have H1 := Lib.hid h1
            clear h1
            go_wp2_with (first | (go_at_call 33; refine (bWithin_any _ _ _ _).mono ?_; rintro e w' ⟨rfl, rfl⟩; first | rw [H1.out]) | (go_at_call 86; refine (bIsTick_any _ _).mono ?_; rintro e w' ⟨rfl, rfl⟩; skip))
            go_ret2
            rw [he.out, eachR_stop hlt (by rw [HME.out, msg_kind H1.out]; decide), HME.out, msg_kind H1.out]
            exact ⟨rfl, hbel1.out⟩
          · have H1 := Lib.hid h1
            clear h1
            cases h2 : (decide (0 ≤ S) && decide (S ≤ 60))
            · have H2 := Lib.hid h2
              clear h2
              go_wp2_with (first | (go_at_call 33; refine (bWithin_any _ _ _ _).mono ?_; rintro e w' ⟨rfl, rfl⟩; first | rw [H1.out] | rw [H2.out]) | (go_at_call 86; refine (bIsTick_any _ _).mono ?_; rintro e w' ⟨rfl, rfl⟩; skip))
              go_ret2
              rw [he.out, eachR_stop hlt (by rw [HME.out, msg_range H1.out (by rw [H2.out]; rfl)]; decide), HME.out, msg_range H1.out (by rw [H2.out]; rfl)]
              exact ⟨rfl, hbel1.out⟩
            · have H2 := Lib.hid h2
              clear h2
              cases h3 : (decide (0 ≤ A) && decide (A ≤ 1000000000000))
              · have H3 := Lib.hid h3
                clear h3
                go_wp2_with (first | (go_at_call 33; refine (bWithin_any _ _ _ _).mono ?_; rintro e w' ⟨rfl, rfl⟩; first | rw [H1.out] | rw [H2.out]) | (go_at_call 86; refine (bIsTick_any _ _).mono ?_; rintro e w' ⟨rfl, rfl⟩; rw [H3.out]))
                go_ret2
                rw [he.out, eachR_stop hlt (by rw [HME.out, msg_range H1.out (by rw [H2.out, H3.out]; rfl)]; decide), HME.out, msg_range H1.out (by rw [H2.out, H3.out]; rfl)]
                exact ⟨rfl, hbel1.out⟩
              · have H3 := Lib.hid h3
                clear h3
                have H23 : Hid ((decide (0 ≤ S) && decide (S ≤ 60) && (decide (0 ≤ A) && decide (A ≤ 1000000000000))) = true) := Lib.hid (by rw [H2.out, H3.out]; rfl)
                go_wp2_with (first | (go_at_call 33; refine (bWithin_any _ _ _ _).mono ?_; rintro e w' ⟨rfl, rfl⟩; first | rw [H1.out] | rw [H2.out]) | (go_at_call 86; refine (bIsTick_any _ _).mono ?_; rintro e w' ⟨rfl, rfl⟩; rw [H3.out]))
                obtain ⟨W, hW⟩ : ∃ W, wr.alloc (.cells #[.int .i64 K, .int .i64 S, .int .i64 A] 61) = W := ⟨_, rfl⟩
                have K5 : Hid (Blk W wr.heap.size #[.int .i64 K, .int .i64 S, .int .i64 A]) := by subst hW; exact Lib.hid (Blk.new _ _ _)
                rw [hW] at hbel1 ⊢
                have HWb : Hid (Below wr.heap.size wr W) := by subst hW; exact Lib.hid (bAlloc (bSelf _) _)
                clear hW c0 c1 c2
                have hbW : b < W.heap.size := Nat.lt_of_lt_of_le hbw HWb.out.size
                have hord : (0 : Int) ≤ A := by have := H3.out; simp only [Bool.and_eq_true, decide_eq_true_eq] at this; exact this.1
                have HORD := Lib.hid hord
                clear hord
                refine wp_region_quiet_all (fun w' => Below (World.heap W).size (W) w') (by kernel_rfl) (by kernel_rfl) (Below.refl _ _).drew ?_
                refine WQ.out ?_
                repeat (first | (refine WQ_no (by rfl) ?_; (simp only [Act.put, List.setIfInBounds_toArray, List.set_cons_zero, List.set_cons_succ])) | (refine WQ_yes (by rfl) ?_; apply Exists.intro; refine ⟨fun w1 hb1 => ?_, ?_⟩; (focus (((obtain ⟨-, k0, -⟩ := K5.out.to hb1); have hb1 := Lib.hid hb1; go_simp); (try (go_bits; try go_simp)); (try (rw [if_pos (by omega)]; try go_simp)); (first | done | (fail) | (with_reducible rfl) | exact rfl))); (simp only [Act.put, List.setIfInBounds_toArray, List.set_cons_zero, List.set_cons_succ])))
                refine WQ_nil ?_
                intro w1 hb1
                replace K5 := Lib.hid (K5.out.to hb1)
                replace hbel1 := Lib.hid (bThen hbel1.out hb1)
                clear hb1
                obtain ⟨-, k5, -⟩ := K5.out
                have hpar := Nat.mod_two_eq_zero_or_one 0
                by_cases hg : K = ((0 : Nat) : Int) % 2 ∧ S = ((0 : Nat) : Int) / 2
                · have HG := Lib.hid hg
                  obtain ⟨hg1, hg2⟩ : K = 0 ∧ S = 0 := by simpa using hg
                  have hs : (S != 0) = false := by rw [hg2]; rfl
                  have hkk : (K != 0) = false := by rw [hg1]; rfl
                  clear hg hg1 hg2 hpar
                  go_wp2_with fail
                  go_roundw
                  case rel => exact ⟨0 + 1, by omega, by go_num, Lib.hid (by rw [he.out, eachR_step hlt (by rw [HME.out, msg_good H1.out H23.out HORD.out HG.out])]), hbel1⟩
                  case measure => simp [intOf]; omega
                · have HG := Lib.hid hg
                  by_cases hs0 : S = 0
                  · have hs : (S != 0) = false := by rw [hs0]; rfl
                    have hkk : (K != 0) = true := by simp; intro h; exact hg (by simp [h, hs0])
                    clear hg hs0 hpar
                    go_wp2_with fail
                    go_ret2
                    rw [he.out, eachR_stop hlt (by rw [HME.out, msg_gap H1.out H23.out HORD.out HG.out]; decide), HME.out, msg_gap H1.out H23.out HORD.out HG.out]
                    exact ⟨rfl, hbel1.out⟩
                  · have hs : (S != 0) = true := by simpa using hs0
                    clear hg hs0 hpar
                    go_wp2_with fail
                    go_ret2
                    rw [he.out, eachR_stop hlt (by rw [HME.out, msg_gap H1.out H23.out HORD.out HG.out]; decide), HME.out, msg_gap H1.out H23.out HORD.out HG.out]
                    exact ⟨rfl, hbel1.out⟩
        · obtain ⟨b, off, rfl, hb, hc⟩ := (HR.out.to hB.out).at (k := (n + 1) * 3) (by omega)
          have hmsE : msE ms (n + 1) = msgE (n + 1) (mK ms (n + 1)) (mS ms (n + 1)) (mA ms (n + 1)) (lastA ms (n + 1)) := rfl
          obtain ⟨K, hK⟩ : ∃ K, mK ms (n + 1) = K := ⟨_, rfl⟩
          obtain ⟨S, hS⟩ : ∃ S, mS ms (n + 1) = S := ⟨_, rfl⟩
          obtain ⟨A, hA⟩ : ∃ A, mA ms (n + 1) = A := ⟨_, rfl⟩
          obtain ⟨la, hla⟩ : ∃ la, lastA ms (n + 1) = la := ⟨_, rfl⟩
          have c9 : Hid (wr.cell? ⟨b, off + n * 3 + 2, none⟩ = some (.int .i64 la)) := Lib.hid (by
            rw [Nat.add_assoc, hc _ (by omega), msgs2, ← hla]; rfl)
          have c0 : wr.cell? ⟨b, off + (n + 1) * 3, none⟩ = some (.int .i64 K) := by rw [hc _ (by omega), msgs0, hK]
          have c1 : wr.cell? ⟨b, off + (n + 1) * 3 + 1, none⟩ = some (.int .i64 S) := by rw [Nat.add_assoc, hc _ (by omega), msgs1, hS]
          have c2 : wr.cell? ⟨b, off + (n + 1) * 3 + 2, none⟩ = some (.int .i64 A) := by rw [Nat.add_assoc, hc _ (by omega), msgs2, hA]
          rw [hK, hS, hA, hla] at hmsE
          have HME := Lib.hid hmsE
          clear hc hmsE hK hS hA hla
          have hbw : b < wr.heap.size := hb
          have hbel1 := Lib.hid (bAlloc hB.out (.cells #[.int .i64 K, .int .i64 S, .int .i64 A] 61))
          cases h1 : (decide (0 ≤ K) && decide (K ≤ 1))
          · have H1 := Lib.hid h1
            clear h1
            go_wp2_with (first | (go_at_call 33; refine (bWithin_any _ _ _ _).mono ?_; rintro e w' ⟨rfl, rfl⟩; first | rw [H1.out]) | (go_at_call 86; refine (bIsTick_any _ _).mono ?_; rintro e w' ⟨rfl, rfl⟩; skip))
            go_ret2
            rw [he.out, eachR_stop hlt (by rw [HME.out, msg_kind H1.out]; decide), HME.out, msg_kind H1.out]
            exact ⟨rfl, hbel1.out⟩
          · have H1 := Lib.hid h1
            clear h1
            cases h2 : (decide (0 ≤ S) && decide (S ≤ 60))
            · have H2 := Lib.hid h2
              clear h2
              go_wp2_with (first | (go_at_call 33; refine (bWithin_any _ _ _ _).mono ?_; rintro e w' ⟨rfl, rfl⟩; first | rw [H1.out] | rw [H2.out]) | (go_at_call 86; refine (bIsTick_any _ _).mono ?_; rintro e w' ⟨rfl, rfl⟩; skip))
              go_ret2
              rw [he.out, eachR_stop hlt (by rw [HME.out, msg_range H1.out (by rw [H2.out]; rfl)]; decide), HME.out, msg_range H1.out (by rw [H2.out]; rfl)]
              exact ⟨rfl, hbel1.out⟩
            · have H2 := Lib.hid h2
              clear h2
              cases h3 : (decide (0 ≤ A) && decide (A ≤ 1000000000000))
              · have H3 := Lib.hid h3
                clear h3
                go_wp2_with (first | (go_at_call 33; refine (bWithin_any _ _ _ _).mono ?_; rintro e w' ⟨rfl, rfl⟩; first | rw [H1.out] | rw [H2.out]) | (go_at_call 86; refine (bIsTick_any _ _).mono ?_; rintro e w' ⟨rfl, rfl⟩; rw [H3.out]))
                go_ret2
                rw [he.out, eachR_stop hlt (by rw [HME.out, msg_range H1.out (by rw [H2.out, H3.out]; rfl)]; decide), HME.out, msg_range H1.out (by rw [H2.out, H3.out]; rfl)]
                exact ⟨rfl, hbel1.out⟩
              · have H3 := Lib.hid h3
                clear h3
                have H23 : Hid ((decide (0 ≤ S) && decide (S ≤ 60) && (decide (0 ≤ A) && decide (A ≤ 1000000000000))) = true) := Lib.hid (by rw [H2.out, H3.out]; rfl)
                go_wp2_with (first | (go_at_call 33; refine (bWithin_any _ _ _ _).mono ?_; rintro e w' ⟨rfl, rfl⟩; first | rw [H1.out] | rw [H2.out]) | (go_at_call 86; refine (bIsTick_any _ _).mono ?_; rintro e w' ⟨rfl, rfl⟩; rw [H3.out]))
                obtain ⟨W, hW⟩ : ∃ W, wr.alloc (.cells #[.int .i64 K, .int .i64 S, .int .i64 A] 61) = W := ⟨_, rfl⟩
                have K5 : Hid (Blk W wr.heap.size #[.int .i64 K, .int .i64 S, .int .i64 A]) := by subst hW; exact Lib.hid (Blk.new _ _ _)
                rw [hW] at hbel1 ⊢
                have HWb : Hid (Below wr.heap.size wr W) := by subst hW; exact Lib.hid (bAlloc (bSelf _) _)
                clear hW c0 c1 c2
                have hbW : b < W.heap.size := Nat.lt_of_lt_of_le hbw HWb.out.size
                by_cases ho : la ≤ A
                · have HORD := Lib.hid ho
                  refine wp_region_quiet_all (fun w' => Below (World.heap W).size (W) w') (by kernel_rfl) (by kernel_rfl) (Below.refl _ _).drew ?_
                  refine WQ.out ?_
                  repeat (first | (refine WQ_no (by rfl) ?_; (simp only [Act.put, List.setIfInBounds_toArray, List.set_cons_zero, List.set_cons_succ])) | (refine WQ_yes (by rfl) ?_; apply Exists.intro; refine ⟨fun w1 hb1 => ?_, ?_⟩; (focus (((obtain ⟨-, k0, -⟩ := K5.out.to hb1; have k9 := (hb1.cell (p := ⟨b, off + n * 3 + 2, none⟩) hbW).trans ((HWb.out.cell (p := ⟨b, off + n * 3 + 2, none⟩) hbw).trans c9.out)); have hb1 := Lib.hid hb1; go_simp); (try (go_bits; try go_simp)); (try (rw [if_pos (by omega)]; try go_simp)); (first | done | (fail) | (with_reducible rfl) | exact rfl))); (simp only [Act.put, List.setIfInBounds_toArray, List.set_cons_zero, List.set_cons_succ])))
                  refine WQ_nil ?_
                  intro w1 hb1
                  replace K5 := Lib.hid (K5.out.to hb1)
                  replace hbel1 := Lib.hid (bThen hbel1.out hb1)
                  clear hb1
                  obtain ⟨-, k5, -⟩ := K5.out
                  have hpar := Nat.mod_two_eq_zero_or_one (n + 1)
                  by_cases hg : K = (((n + 1) : Nat) : Int) % 2 ∧ S = (((n + 1) : Nat) : Int) / 2
                  · have HG := Lib.hid hg
                    have hs : (S != ((n : Int) + 1) / 2) = false := by rw [hg.2]; simp
                    rcases hpar with hp | hp
                    · have hpb : (((n : Int) + 1) % 2 == 1) = false := by rw [beq_eq_false_iff_ne]; omega
                      have hkk : (K != 0) = false := by rw [show K = 0 by omega]; rfl
                      clear hg hp
                      go_wp2_with fail
                      go_roundw
                      case rel => exact ⟨(n + 1) + 1, by omega, by go_num, Lib.hid (by rw [he.out, eachR_step hlt (by rw [HME.out, msg_good H1.out H23.out HORD.out HG.out])]), hbel1⟩
                      case measure => simp [intOf]; omega
                    · have hpb : (((n : Int) + 1) % 2 == 1) = true := by rw [beq_iff_eq]; omega
                      have hkk : (K != 1) = false := by rw [show K = 1 by omega]; rfl
                      clear hg hp
                      go_wp2_with fail
                      go_roundw
                      case rel => exact ⟨(n + 1) + 1, by omega, by go_num, Lib.hid (by rw [he.out, eachR_step hlt (by rw [HME.out, msg_good H1.out H23.out HORD.out HG.out])]), hbel1⟩
                      case measure => simp [intOf]; omega
                  · have HG := Lib.hid hg
                    by_cases hs0 : S = ((n : Int) + 1) / 2
                    · have hs : (S != ((n : Int) + 1) / 2) = false := by rw [hs0]; simp
                      rcases hpar with hp | hp
                      · have hpb : (((n : Int) + 1) % 2 == 1) = false := by rw [beq_eq_false_iff_ne]; omega
                        have hkk : (K != 0) = true := by
                          simp only [bne_iff_ne, ne_eq]
                          intro h
                          exact hg ⟨by omega, by omega⟩
                        clear hg hs0 hp
                        go_wp2_with fail
                        go_ret2
                        rw [he.out, eachR_stop hlt (by rw [HME.out, msg_gap H1.out H23.out HORD.out HG.out]; decide), HME.out, msg_gap H1.out H23.out HORD.out HG.out]
                        exact ⟨rfl, hbel1.out⟩
                      · have hpb : (((n : Int) + 1) % 2 == 1) = true := by rw [beq_iff_eq]; omega
                        have hkk : (K != 1) = true := by
                          simp only [bne_iff_ne, ne_eq]
                          intro h
                          exact hg ⟨by omega, by omega⟩
                        clear hg hs0 hp
                        go_wp2_with fail
                        go_ret2
                        rw [he.out, eachR_stop hlt (by rw [HME.out, msg_gap H1.out H23.out HORD.out HG.out]; decide), HME.out, msg_gap H1.out H23.out HORD.out HG.out]
                        exact ⟨rfl, hbel1.out⟩
                    · have hs : (S != ((n : Int) + 1) / 2) = true := by simpa using hs0
                      clear hg hs0
                      rcases hpar with hp | hp
                      · have hpb : (((n : Int) + 1) % 2 == 1) = false := by rw [beq_eq_false_iff_ne]; omega
                        clear hp
                        go_wp2_with fail
                        go_ret2
                        rw [he.out, eachR_stop hlt (by rw [HME.out, msg_gap H1.out H23.out HORD.out HG.out]; decide), HME.out, msg_gap H1.out H23.out HORD.out HG.out]
                        exact ⟨rfl, hbel1.out⟩
                      · have hpb : (((n : Int) + 1) % 2 == 1) = true := by rw [beq_iff_eq]; omega
                        clear hp
                        go_wp2_with fail
                        go_ret2
                        rw [he.out, eachR_stop hlt (by rw [HME.out, msg_gap H1.out H23.out HORD.out HG.out]; decide), HME.out, msg_gap H1.out H23.out HORD.out HG.out]
                        exact ⟨rfl, hbel1.out⟩
                · have HORD := Lib.hid ho
                  refine wp_region_quiet_all (fun w' => Below (World.heap W).size (W) w') (by kernel_rfl) (by kernel_rfl) (Below.refl _ _).drew ?_
                  refine WQ.out ?_
                  repeat (first | (refine WQ_no (by rfl) ?_; (simp only [Act.put, List.setIfInBounds_toArray, List.set_cons_zero, List.set_cons_succ])) | (refine WQ_yes (by rfl) ?_; apply Exists.intro; refine ⟨fun w1 hb1 => ?_, ?_⟩; (focus (((obtain ⟨-, k0, -⟩ := K5.out.to hb1; have k9 := (hb1.cell (p := ⟨b, off + n * 3 + 2, none⟩) hbW).trans ((HWb.out.cell (p := ⟨b, off + n * 3 + 2, none⟩) hbw).trans c9.out)); have hb1 := Lib.hid hb1; go_simp); (try (go_bits; try go_simp)); (try (rw [if_pos (by omega)]; try go_simp)); (first | done | (fail) | (with_reducible rfl) | exact rfl))); (simp only [Act.put, List.setIfInBounds_toArray, List.set_cons_zero, List.set_cons_succ])))
                  refine WQ_nil ?_
                  intro w1 hb1
                  replace hbel1 := Lib.hid (bThen hbel1.out hb1)
                  clear hb1
                  go_wp2_with fail
                  go_ret2
                  rw [he.out, eachR_stop hlt (by rw [HME.out, msg_order H1.out H23.out (by have := HORD.out; omega)]; decide), HME.out, msg_order H1.out H23.out (by have := HORD.out; omega)]
                  exact ⟨rfl, hbel1.out⟩
      · have : k = ms.length := by omega
        subst this
        go_wp2_with fail
        go_ret2
        rw [he.out, Nat.sub_self]
        exact ⟨rfl, hB.out⟩

end Go.Proofs.Ytjieojkfpoiabaa
