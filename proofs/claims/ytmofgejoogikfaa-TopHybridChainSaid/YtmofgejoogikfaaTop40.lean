/-
  Texts of this claim, in their build order: M4 P5.
-/
import Derived.Test.YtmofgejoogikfaaTop27
import Derived.Test.YtmofgejoogikfaaTop39

/-
  The reference's copies of springs and frames.
-/
namespace Go.Proofs.Ytmofgejoogikfaa
open Go.RowKit

theorem rtEl : RowTy Try.prog 32 31 3 24 (.agg #[.int .i64 0, .int .i64 0, .bool false]) := by
  obtain ⟨i, h1, h2, h3, h4⟩ := info_parts (show (Try.prog.info? 31).map (fun i => (i.zero, i.size, i.bytes)) = some (some (.agg #[.int .i64 0, .int .i64 0, .bool false]), 3, 24) by kernel_rfl)
  exact ⟨by kernel_rfl, ⟨i, h1, h2, h3, h4⟩, rfl, by omega, by omega⟩
theorem rtFl : RowTy Try.prog 27 34 3 40 (.agg #[.int .i64 0, .int .i64 0, .slice none 0 0]) := by
  obtain ⟨i, h1, h2, h3, h4⟩ := info_parts (show (Try.prog.info? 34).map (fun i => (i.zero, i.size, i.bytes)) = some (some (.agg #[.int .i64 0, .int .i64 0, .slice none 0 0]), 3, 40) by kernel_rfl)
  exact ⟨by kernel_rfl, ⟨i, h1, h2, h3, h4⟩, rfl, by omega, by omega⟩
theorem elF_one (K : Int) (j i : Nat) : (elF K j i).oneCell' = true := by unfold elF; split <;> (try split) <;> rfl
set_option maxHeartbeats 800000 in
set_option maxRecDepth 100000 in
theorem CopySpring_any (K : Int) (a : Option Addr) (cap : Nat) (w : World) (hr : Reads w a (elN K * 3) (recs 3 (elF K))) :
    Calls Try.prog 53 #[.slice a (elN K) cap] w fun e w' => ∃ a' c', e = .returned (.slice a' (elN K) c') ∧ Reads w' a' (elN K * 3) (recs 3 (elF K)) ∧ Below w.heap.size w w' ∧ ∀ p, a' = some p → w.heap.size ≤ p.block := by
  have hn0 := elN_pos K
  have hn2 := elN_two K
  obtain ⟨n, hn⟩ : ∃ n, elN K = n := ⟨_, rfl⟩
  rw [hn] at hr hn0 hn2 ⊢
  clear hn
  obtain ⟨b, off, rfl, hb, hc⟩ := hr.at (k := 0) (by omega)
  have HN := Lib.hid (Reads.newsR (hr.alloc (.cells #[] 31)))
  have hcl := Lib.hid (rcells_len 3 (elF K) n)
  have HON := Lib.hid (onesR (s := 3) (f := elF K) (n := n) (fun k j _ _ => elF_one K k j))
  clear hr hc
  go_enter Try.func53, Try.ntmps53
  go_wp2_with (at_builtin; refine wpList_app w.heap.size rtEl rfl (.tmp 3) (.tmp 4) rfl (.slice (some ⟨w.heap.size, 0, none⟩) 0 0) 0 [] rfl (World.ownsRow_lit w #[] 0 (Nat.le_refl _) (by decide) rfl) ⟨b, off, none⟩ n cap (rcells 3 (elF K) n) rfl hcl.out HN.out HON.out (by unfold maxLen; omega) (by omega) (by simp) ?_; intro v' w2 hown' hgrow _ hwhere; have HO := Lib.hid hown'; have HBB : Hid (Below w.heap.size w w2) := Lib.hid ((bAlloc (bSelf w) _).grown hgrow (by simp) (fun k e => by cases e; exact Nat.le_refl _)); clear hown' hgrow hwhere)
  go_ret
  have hrow := HO.out
  rw [Nat.zero_add, List.nil_append] at hrow
  obtain ⟨a', cap', rfl, hcp, hrd, hfr⟩ := Reads.of_row (f := recs 3 (elF K)) hrow (fun i hi => rcells_get hi)
  exact ⟨a', cap', rfl, hrd, HBB.out, hfr⟩

/-- A frame that grows floor by floor: its box is B. -/
structure CFI (ks : List Int) (B k : Nat) (v : Value) (sp : Nat → Option Addr × Nat) (wr : World) : Prop where
  kb : Blk wr B #[v]
  row : wr.ownsRow (B + 1) 34 3 v k (rcells 3 (flF ks sp) k)
  el : ∀ j, j < k → Reads wr (sp j).1 (elN (gi ks j) * 3) (recs 3 (elF (gi ks j)))
  ne : ∀ j p, j < k → (sp j).1 = some p → v.ownBlock ≠ some p.block ∧ B < p.block
theorem CFI.frame {ks : List Int} {B k : Nat} {v : Value} {sp : Nat → Option Addr × Nat} {wr : World} (h : CFI ks B k v sp wr) :
    ∃ a c, v = .slice a k c ∧ k ≤ c ∧ FrameAt wr a k ks sp := by
  obtain ⟨a, c, rfl, hc, hrd, -⟩ := Reads.of_row (f := recs 3 (flF ks sp)) h.row (fun i hi => rcells_get hi)
  exact ⟨a, c, rfl, hc, hrd, h.el⟩
/-- One floor more: what is appended lies in new memory of W1, its elements at y. -/
theorem CFI.next {ks : List Int} {B k : Nat} {v v' : Value} {sp : Nat → Option Addr × Nat} {wr W1 W2 : World} {y : Option Addr} {c : Nat} (h : CFI ks B k v sp wr)
    (hb : Below wr.heap.size wr W1) (hy : Reads W1 y (elN (gi ks k) * 3) (recs 3 (elF (gi ks k)))) (hyp : ∀ p, y = some p → wr.heap.size ≤ p.block) (hyl : ∀ p, y = some p → p.block < W1.heap.size)
    (hrow : W2.ownsRow (B + 1) 34 3 v' (k + 1) (rcells 3 (flF ks sp) k ++ [.int .i64 ((k : Int) + 1), .int .i64 1, .slice y (elN (gi ks k)) c]))
    (hg : W1.grownBy W2 v.ownBlock) (hw : v'.ownBlock = v.ownBlock ∨ v'.ownBlock = some W1.heap.size) :
    CFI ks B (k + 1) v' (fun j => if j = k then (y, c) else sp j) (W2.setCell ⟨B, 0, none⟩ v') := by
  have hlt := h.kb.1
  have hv : ∀ g, v.ownBlock = some g → B + 1 ≤ g ∧ g < wr.heap.size := h.row.lt
  have hk2 := h.kb.to hb
  have hK : Blk W2 B #[v] := blk_grown hk2 hg (fun e => by have := (hv _ e).1; omega)
  have hset := hK.set 0 v'
  have e1 : rcells 3 (flF ks sp) k ++ [.int .i64 ((k : Int) + 1), .int .i64 1, .slice y (elN (gi ks k)) c] = rcells 3 (flF ks (fun j => if j = k then (y, c) else sp j)) (k + 1) := by
    have ec : ∀ i j, i < k → j < 3 → flF ks sp i j = flF ks (fun j => if j = k then (y, c) else sp j) i j := fun i j hi _ => by
      have h1 : ¬ i = k := by omega
      unfold flF
      simp only [if_neg h1]
    rw [rcells_congr ec]
    refine rcells_snoc _ _ _ rfl (fun j hj => ?_)
    match j, hj with
    | 0, _ => rfl
    | 1, _ => rfl
    | 2, _ => simp [flF]
  rw [e1] at hrow
  have hrow2 : (W2.setCell ⟨B, 0, none⟩ v').ownsRow (B + 1) 34 3 v' (k + 1) (rcells 3 (flF ks (fun j => if j = k then (y, c) else sp j)) (k + 1)) :=
    ownsRow_setCell_below hrow (Nat.lt_succ_self B) v'
  refine ⟨by simpa using hset, hrow2, fun j hj => ?_, fun j p hj hp => ?_⟩
  · by_cases hjk : j = k
    · subst hjk
      rw [if_pos rfl]
      exact (hy.grown hg (fun p hp e => by have := hyp p hp; have := (hv _ e.symm).2; omega)).other _ _ (fun b off e => by have := hyp _ e; dsimp only at this ⊢; omega)
    · rw [if_neg hjk]
      exact (((h.el j (by omega)).to hb).grown hg (fun p hp e => (h.ne j p (by omega) hp).1 e.symm)).other _ _ (fun b off e => by have := (h.ne j _ (by omega) e).2; dsimp only at this ⊢; omega)
  · by_cases hjk : j = k
    · subst hjk
      rw [if_pos rfl] at hp
      have h1 := hyp p hp
      refine ⟨fun e => ?_, by omega⟩
      rcases hw with hw | hw
      · have := (hv _ (hw ▸ e)).2; omega
      · rw [hw] at e; have e := Option.some.inj e; have := hyl p hp; omega
    · rw [if_neg hjk] at hp
      obtain ⟨h1, h2⟩ := h.ne j p (by omega) hp
      refine ⟨fun e => ?_, h2⟩
      rcases hw with hw | hw
      · exact h1 (hw ▸ e)
      · rw [hw] at e; have e := Option.some.inj e
        have hel := h.el j (by omega)
        obtain ⟨b, off, e2, hb2, -⟩ := hel.at (k := 0) (by have := elN_pos (gi ks j); omega)
        rw [hp] at e2
        cases e2
        have := hb.size
        dsimp only at e
        omega

set_option maxHeartbeats 1600000 in
set_option maxRecDepth 100000 in
theorem CopyFrame_ok (ks : List Int) (n : Nat) (sp : Nat → Option Addr × Nat) (a : Option Addr) (cap : Nat) (w : World) (hn5 : n ≤ 5) (h : FrameAt w a n ks sp) :
    Calls Try.prog 8 #[.agg #[.slice a n cap]] w fun e w' => ∃ a' c' sp', e = .returned (.agg #[.slice a' n c']) ∧ n ≤ c' ∧ FrameAt w' a' n ks sp' ∧ Below w.heap.size w w' := by
  have HF := Lib.hid h
  clear h
  go_enter Try.func8, Try.ntmps8
  go_wp2_with fail
  obtain ⟨W, hW⟩ : ∃ W, ((w.alloc (.cells #[.slice a n cap] 29)).alloc (.cells #[.slice none 0 0] 29)).alloc (.cells #[.slice none 0 0] 29) = W := ⟨_, rfl⟩
  rw [hW]
  have K0 : Hid (Blk W w.heap.size #[.slice a n cap]) := by subst hW; exact Lib.hid (((Blk.new _ _ _).alloc _).alloc _)
  have K1 : Hid (Blk W (w.heap.size + 1) #[.slice none 0 0]) := by subst hW; exact Lib.hid ((Blk.newAt _ _ _ (by simp)).alloc _)
  have K2 : Hid (Blk W (w.heap.size + 1 + 1) #[.slice none 0 0]) := by subst hW; exact Lib.hid (Blk.newAt _ _ _ (by simp))
  have HB : Hid (Below w.heap.size w W) := by subst hW; exact Lib.hid (bAlloc (bAlloc (bAlloc (bSelf w) _) _) _)
  clear hW
  obtain ⟨w3, hw3⟩ : ∃ z, W = z := ⟨_, rfl⟩
  subst hw3
  obtain ⟨B, hB⟩ : ∃ B, w.heap.size + 1 + 1 = B := ⟨_, rfl⟩
  rw [hB] at K2 ⊢
  have hB0 : w.heap.size < B := by omega
  have hB1 : w.heap.size + 1 < B := by omega
  have HI0 : Hid (CFI ks B 0 (.slice none 0 0) (fun _ => (none, 0)) W) := Lib.hid ⟨K2.out, World.ownsRow_nil _ _ _ _, fun j hj => by omega, fun j p hj => by omega⟩
  have HW : Hid (Below B W W) := Lib.hid (Below.refl _ _)
  clear K2 hB
  go_loopw [4] (fun i wr => ∃ (k : Nat) (v : Value) (sp' : Nat → Option Addr × Nat), k ≤ n ∧ i = .int .i64 k ∧ Hid (CFI ks B k v sp' wr) ∧ Hid (Below B W wr)) (fun i _ => n - (intOf i).toNat)
  case atStart => exact ⟨0, _, _, Nat.zero_le _, rfl, HI0, HW⟩
  case round =>
    obtain ⟨k, v, sp2, hk, rfl, HI, HR⟩ := hrel
    clear HI0 HW
    have k0 := K0.out.below HR.out hB0
    have K1r := Lib.hid (K1.out.below HR.out hB1)
    have HBr := Lib.hid (HB.out.trans (HR.out.mono (Nat.le_of_lt hB0)))
    obtain ⟨-, k0, -⟩ := k0
    by_cases hlt : k < n
    · have hltI : decide ((k : Int) < (n : Int)) = true := decide_eq_true (by omega)
      have hfr := HF.out.to HBr.out
      obtain ⟨b, off, rfl, hb, hc⟩ := hfr.fl.at (k := k * 3) (by omega)
      have h0 : wr.cell? ⟨b, off + k * 3, none⟩ = some (.int .i64 ((k : Int) + 1)) := by rw [hc _ (by omega), recs_at0 (by decide)]; rfl
      have h1 : wr.cell? ⟨b, off + k * 3 + 1, none⟩ = some (.int .i64 1) := by rw [Nat.add_assoc, hc _ (by omega), recs_at (by decide)]; rfl
      have h2 : wr.cell? ⟨b, off + k * 3 + 2, none⟩ = some (.slice (sp k).1 (elN (gi ks k)) (sp k).2) := by rw [Nat.add_assoc, hc _ (by omega), recs_at (by decide)]; rfl
      have hel := hfr.el k hlt
      have HCS := Lib.hid (fun W (hb : Below wr.heap.size wr W) => CopySpring_any (gi ks k) (sp k).1 (sp k).2 W (hel.to hb))
      have HNX := Lib.hid (fun v' W1 W2 y c => CFI.next (v' := v') (W1 := W1) (W2 := W2) (y := y) (c := c) HI.out)
      have hN0 := elN_pos (gi ks k)
      obtain ⟨y, c, hy⟩ : ∃ y c, sp k = (y, c) := ⟨_, _, rfl⟩
      obtain ⟨m, hm⟩ : ∃ m, elN (gi ks k) = m := ⟨_, rfl⟩
      rw [hy, hm] at h2 HCS
      rw [hm] at HNX hN0
      dsimp only at h2 HCS
      have hBr : B < wr.heap.size := HI.out.kb.1
      have HM := Lib.hid hm
      clear hc hy hm hfr hel
      go_wp2_with fail
      obtain ⟨w5, hw5⟩ : ∃ W, wr.alloc (.cells #[.int .i64 ((k : Int) + 1), .int .i64 1, .slice y m c] 34) = W := ⟨_, rfl⟩
      rw [hw5]
      have K5 : Hid (Blk w5 wr.heap.size #[.int .i64 ((k : Int) + 1), .int .i64 1, .slice y m c]) := by subst hw5; exact Lib.hid (Blk.new _ _ _)
      have HB5 : Hid (Below wr.heap.size wr w5) := by subst hw5; exact Lib.hid (bAlloc (bSelf _) _)
      clear hw5 h0 h1 h2 k0
      refine (HCS.out _ HB5.out).mono ?_
      rintro e w6 ⟨y2, c2, rfl, hrd, hb6, hp6⟩
      have hs5 : wr.heap.size < w5.heap.size := K5.out.1
      replace K5 := Lib.hid (K5.out.to hb6)
      have HRD := Lib.hid hrd
      have HP6 := Lib.hid (fun p hp => Nat.lt_of_lt_of_le hs5 (hp6 p hp))
      have HB6 := Lib.hid (bThen HB5.out hb6)
      clear hrd hb6 hp6 hs5 HB5
      obtain ⟨hs6, k5, f5⟩ := K5.out
      go_upto_region 7 with (fail)
      clear k5 f5
      obtain ⟨w7, hw7⟩ : ∃ W, w6.setCell ⟨wr.heap.size, 2, none⟩ (.slice y2 m c2) = W := ⟨_, rfl⟩
      rw [hw7]
      have hs7 : w7.heap.size = w6.heap.size := by subst hw7; simp [World.setCell]
      replace K5 : Hid (Blk w7 wr.heap.size #[.int .i64 ((k : Int) + 1), .int .i64 1, .slice y2 m c2]) := by subst hw7; exact Lib.hid (by simpa using K5.out.set 2 (.slice y2 m c2))
      have HB7 : Hid (Below wr.heap.size wr w7) := by subst hw7; exact Lib.hid (HB6.out.setCell (p := ⟨wr.heap.size, 2, none⟩) (Nat.le_refl _) _)
      replace HRD : Hid (Reads w7 y2 (m * 3) (recs 3 (elF (gi ks k)))) := by subst hw7; exact Lib.hid (HRD.out.other _ _ (fun b off e => by have := HP6.out _ e; dsimp only at this ⊢; omega))
      have HK7 := Lib.hid (HI.out.kb.to HB7.out)
      have hs7' : wr.heap.size < w7.heap.size := K5.out.1
      clear hw7 hs7 hs6
      obtain ⟨-, k7, -⟩ := HK7.out
      obtain ⟨-, k5, -⟩ := K5.out
      have HROW := Lib.hid ((owns_to HI.out.row HB7.out).alloc (.cells #[.int .i64 ((k : Int) + 1), .int .i64 1, .slice y2 m c2] 34))
      have HNN := Lib.hid (Blk.news (Blk.new w7 #[.int .i64 ((k : Int) + 1), .int .i64 1, .slice y2 m c2] 34))
      have HLO := Lib.hid (fun g e => (HROW.out.lt g e).1)
      go_wp2_with (at_builtin; refine wpList_app (B + 1) rtFl rfl (.tmp 23) (.tmp 25) rfl _ _ _ rfl HROW.out ⟨w7.heap.size, 0, none⟩ 1 1 [.int .i64 ((k : Int) + 1), .int .i64 1, .slice y2 m c2] rfl rfl HNN.out (by simp [Value.oneCell']) (by unfold maxLen; omega) (by omega) (by simp; omega) ?_; intro v' w8 hown' hgrow _ hwhere; obtain ⟨g', cp', rfl⟩ := ownsRow_succ hown'; have HO := Lib.hid hown'; have HG := Lib.hid hgrow; have HWH := Lib.hid hwhere; have HK8 := Lib.hid (blk_grown (HK7.out.alloc _) hgrow (fun e => by have := HLO.out _ e; omega)); obtain ⟨-, k8, f8⟩ := HK8.out; clear hown' hgrow hwhere)
      have HB8 : Hid (Below (B + 1) wr w8) := Lib.hid (((HB7.out.mono hBr).alloc (by omega) _).grown HG.out (by simp; omega) (fun g e => HLO.out g e))
      go_roundw
      case rel =>
        refine ⟨k + 1, _, _, by omega, by go_num, Lib.hid (HNX.out _ (w7.alloc (.cells #[.int .i64 ((k : Int) + 1), .int .i64 1, .slice y2 m c2] 34)) w8 y2 c2 (bAlloc HB7.out _) (HRD.out.alloc _) (fun p hp => Nat.le_of_lt (HP6.out p hp)) (fun p hp => ?_) HO.out HG.out HWH.out), Lib.hid ((HR.out.trans (HB8.out.mono (Nat.le_succ B))).setCell (p := ⟨B, 0, none⟩) (Nat.le_refl _) _)⟩
        obtain ⟨b3, off3, e3, hb3, -⟩ := HRD.out.at (k := 0) (by omega)
        rw [hp] at e3
        cases e3
        simp
        omega
      case measure => simp [intOf]; omega
    · have hltI : decide ((k : Int) < (n : Int)) = false := decide_eq_false (by omega)
      obtain rfl : k = n := by omega
      obtain ⟨a', c', rfl, hc', hfr⟩ := HI.out.frame
      have HFR := Lib.hid hfr
      have HK := Lib.hid HI.out.kb
      have HNE := Lib.hid HI.out.ne
      clear hfr
      obtain ⟨-, k2, -⟩ := HK.out
      obtain ⟨-, k1, f1⟩ := K1r.out
      have hne : w.heap.size + 1 ≠ B := by omega
      go_wp2_with fail
      clear k1 f1
      have F0 := (K1r.out.set 0 (.slice a' k c')).2.1 0
      have hfr := HFR.out
      refine bodyPost_ret (v := .agg #[.slice a' k c']) ?_ rfl ⟨a', c', sp2, rfl, hc', ?_, HBr.out.setCell (p := ⟨w.heap.size + 1, 0, none⟩) (by dsimp only; omega) _⟩
      · simp [results, Try.results8, go_sem, F0]
      · refine ⟨hfr.fl.other _ _ (fun b off e => ?_), fun j hj => (hfr.el j hj).other _ _ (fun b off e => ?_)⟩
        · have := (HI.out.row.lt b (by rw [e]; rfl)).1
          dsimp only; omega
        · have := (HNE.out j _ hj e).2
          dsimp only at this ⊢; omega

end Go.Proofs.Ytmofgejoogikfaa

/-
  The same structure: the plain laws of chains as frames.
-/
namespace Go.Proofs.Ytmofgejoogikfaa
open Go.RowKit

/-- The drift of a storey. -/
def drf (ks fs : List Int) (k : Nat) : Int × Int := fr ((fs.drop k).sum) (gi ks k)
theorem drf_low {ks fs : List Int} (hok : ChOk ks fs) {k : Nat} (hk : k < ks.length) : lowB (drf ks fs k).1 (drf ks fs k).2 = true :=
  lowB_fr _ (by have := (hok.k1 k hk).1; omega)
/-- The displacement below plus the drift is the displacement. -/
theorem drf_sum {ks fs : List Int} {l : List (Int × Int)} {L : Int} (h : Mvd ks fs l L) {k : Nat} (hk : k < ks.length) : rAdd (nbB l k) (fr (drf ks fs k).1 (drf ks fs k).2) = fg l k := by
  have hK : 0 < gi ks k := by have := (h.ok.k1 k hk).1; omega
  have hlow := fr_low ((fs.drop k).sum) hK
  have hid : fr (drf ks fs k).1 (drf ks fs k).2 = drf ks fs k := fr_id hlow
  rw [hid, h.at' k hk]
  have hn : refN ks fs L (k + 1) = refN ks fs L k + (fs.drop k).sum * L.tdiv (gi ks k) := by
    have : refN ks fs L (k + 1) = refN ks fs L k + sprF fs k * L.tdiv (gi ks k) := rfl
    rw [this, sprF_sum (by rw [h.ok.len]; exact hk)]
  have ht := tdiv_ex hK (h.div k hk)
  obtain ⟨b0, -, be⟩ := h.fqB hk
  have dm : (drf ks fs k).1 * gi ks k = (fs.drop k).sum * (drf ks fs k).2 := fr_mul hK
  have d0 : 0 < (drf ks fs k).2 := fr_pos hK
  rw [hn]
  have hL := h.L0
  unfold rAdd
  refine fr_eq (Int.mul_pos b0 d0) hL ?_
  generalize L.tdiv (gi ks k) = t at *
  generalize gi ks k = K at *
  generalize (fs.drop k).sum = S at *
  generalize refN ks fs L k = N at *
  generalize drf ks fs k = d at *
  generalize nbB l k = b at *
  grind
/-- A drift times the stiffness is the force that is carried. -/
theorem drf_force {ks fs : List Int} (hok : ChOk ks fs) {k : Nat} (hk : k < ks.length) : fr (gi ks k * (drf ks fs k).1) (drf ks fs k).2 = ((fs.drop k).sum, 1) := by
  have hK : 0 < gi ks k := by have := (hok.k1 k hk).1; omega
  have dm : (drf ks fs k).1 * gi ks k = (fs.drop k).sum * (drf ks fs k).2 := fr_mul hK
  have d0 : 0 < (drf ks fs k).2 := fr_pos hK
  rw [fr_eq (n' := (fs.drop k).sum) (m' := 1) d0 (by decide) (by rw [Int.mul_one, Int.mul_comm]; exact dm)]
  exact fr_id (by simp)
/-- The forces that move the top alone. -/
def topF (n : Nat) (x : Int) : List Int := List.replicate (n - 1) 0 ++ [x]
theorem topF_len {n : Nat} (hn : 0 < n) (x : Int) : (topF n x).length = n := by unfold topF; simp; omega
theorem topF_drop {n : Nat} (x : Int) : ∀ {k : Nat}, k < n → ((topF n x).drop k).sum = x := by
  intro k hk
  unfold topF
  rw [List.drop_append, List.length_replicate, show k - (n - 1) = 0 by omega, List.drop_zero, List.drop_replicate, List.sum_append]
  have : (List.replicate (n - 1 - k) (0 : Int)).sum = 0 := by
    generalize n - 1 - k = m
    induction m with
    | zero => rfl
    | succ m ih => rw [List.replicate_succ, List.sum_cons, ih]; rfl
  rw [this]; simp
theorem topF_gi {n : Nat} (x : Int) (k : Nat) (hk : k < n) : gi (topF n x) k = if k = n - 1 then x else 0 := by
  unfold topF gi
  rw [List.getD_eq_getElem?_getD]
  by_cases h : k = n - 1
  · rw [if_pos h, List.getElem?_append_right (by simp [h]), List.length_replicate, h]; simp
  · rw [if_neg h, List.getElem?_append_left (by simp; omega), List.getElem?_replicate, if_pos (by omega)]; rfl
theorem ok_top {ks fs : List Int} (h : ChOk ks fs) (hn : 0 < ks.length) {x : Int} (hx : 0 < x ∧ x ≤ 1000) : ChOk ks (topF ks.length x) :=
  ⟨topF_len hn x, h.few, h.k1, fun k hk => by rw [topF_gi x k hk]; split <;> omega⟩
/-- The stiffness is the force on the top that moves it by 1: by its denominator under its numerator. -/
theorem top_law {ks fs : List Int} {v : List (Int × Int)} (h : ChOk ks fs) (hn : 0 < ks.length) (hx : (flexP ks ks.length).2 ≤ 1000)
    (hv : mvO ks (topF ks.length (flexP ks ks.length).2) = some v) : v.length = ks.length ∧ fg v (ks.length - 1) = ((flexP ks ks.length).1, 1) := by
  obtain ⟨p1, p2, p3⟩ := flex_pos h hn
  have hm := mvd_of (ok_top h hn ⟨p2, hx⟩) hv
  refine ⟨hm.len, ?_⟩
  rw [hm.at' _ (by omega), show ks.length - 1 + 1 = ks.length by omega]
  obtain ⟨h1, -, h3⟩ := lcm_bd h (Nat.le_refl ks.length)
  have e := flex_eq h.k1 h1 h3 ks.length (Nat.le_refl _)
  generalize lcmP ks ks.length = L at *
  have hfm := fr_mul (n := refS ks L ks.length) h1
  rw [← e] at hfm
  generalize (flexP ks ks.length).1 = a at *
  generalize (flexP ks ks.length).2 = b at *
  have hr : ∀ j, j ≤ ks.length → refN ks (topF ks.length b) L j = b * refS ks L j := by
    intro j
    induction j with
    | zero => intro _; simp [refN, refS]
    | succ j ih =>
      intro hj
      show refN ks (topF ks.length b) L j + sprF (topF ks.length b) j * L.tdiv (gi ks j) = b * (refS ks L j + L.tdiv (gi ks j))
      rw [ih (by omega), sprF_sum (by rw [topF_len hn]; omega), topF_drop b (by omega), Int.mul_add]
  rw [hr _ (Nat.le_refl _), fr_eq (n' := a) (m' := 1) h1 (by decide) (by rw [Int.mul_one, hfm, Int.mul_comm])]
  exact fr_id (by simp)

end Go.Proofs.Ytmofgejoogikfaa

