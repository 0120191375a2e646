/-
  Texts of this claim, in their build order: R3.
-/
import Derived.Test.YtjieojkfpoiabaaHalves42
import Derived.Test.YtjieojkfpoiabaaHalves1
import Derived.Test.YtjieojkfpoiabaaHalves43
import Derived.Test.YtjieojkfpoiabaaHalves17
import Derived.Test.YtjieojkfpoiabaaHalves19

/-
  HybridHalves: the walk through the statement.
-/
namespace Go.Proofs.Ytjieojkfpoiabaa
open Go.RowKit

/-- The loop that turns the chain round: after k rounds. -/
structure RevI (rk rf : List Int) (w wC : World) (B k : Nat) (v1 v2 : Value) (wr : World) : Prop where
  kb : Blk wr B #[v1, v2]
  rs : RS B wr v1 v2 k k ((rk.take k).map fun z => Value.int .i64 z) ((rf.take k).map fun z => Value.int .i64 z) []
  be : Below B wC wr
  bw : Below w.heap.size w wr
theorem RevI.next {rk rf : List Int} {w wC : World} {B k : Nat} {v1 v2 u1 u2 : Value} {wr W : World} {S : List (Nat × Int)} (h : RevI rk rf w wC B k v1 v2 wr) (hk : k < rk.length) (hk2 : k < rf.length) (hw : w.heap.size ≤ B)
    (hb : Below (B + 1) wr W) (hr : RS B W u1 u2 (k + 1) (k + 1) (((rk.take k).map fun z => Value.int .i64 z) ++ [Value.int .i64 (gi rk k)]) (((rf.take k).map fun z => Value.int .i64 z) ++ [Value.int .i64 (gi rf k)]) S) :
    RevI rk rf w wC B (k + 1) u1 u2 ((W.setCell ⟨B, 0, none⟩ u1).setCell ⟨B, 1, none⟩ u2) := by
  have hK := ((h.kb.below hb (Nat.lt_succ_self B)).set 0 u1).set 1 u2
  have hR := (hr.set 0 u1).set 1 u2
  rw [show ((rk.take k).map fun z => Value.int .i64 z) ++ [Value.int .i64 (gi rk k)] = ((rk.take (k + 1)).map fun z => Value.int .i64 z) by rw [gi_take rk k hk, List.map_append]; rfl, show ((rf.take k).map fun z => Value.int .i64 z) ++ [Value.int .i64 (gi rf k)] = ((rf.take (k + 1)).map fun z => Value.int .i64 z) by rw [gi_take rf k hk2, List.map_append]; rfl] at hR
  exact ⟨by simpa using hK, hR, ((h.be.trans (hb.mono (Nat.le_succ B))).setCell (p := ⟨B, 0, none⟩) (Nat.le_refl _) _).setCell (p := ⟨B, 1, none⟩) (Nat.le_refl _) _, ((h.bw.trans (hb.mono (by omega))).setCell (p := ⟨B, 0, none⟩) hw _).setCell (p := ⟨B, 1, none⟩) hw _⟩

set_option maxHeartbeats 100000000 in
set_option maxRecDepth 100000 in
theorem HybridHalves_main (ks fs : List Int) (x0 x1 : Int) (a1 a2 : Option Addr) (c1 c2 : Nat) (w : World) (hok : ChOk ks fs) (hn0 : 0 < ks.length) (hcf : fs.length ≤ c2) (hck : ks.length ≤ c1)
    (hr1 : Reads w a1 ks.length (ints ks)) (hr2 : Reads w a2 fs.length (ints fs)) :
    Calls Try.prog 9 #[.agg (chV a1 ks.length c1 a2 fs.length c2), .agg #[.int .i64 x0, .int .i64 x1]] w fun e w' => e = .returned (.bool true) ∧ Below w.heap.size w w' := by
  have hchk := chkC_of hok hn0
  have hlen := hok.len
  have hfew := hok.few
  have hrok := ok_rev hok
  have hrn : ks.reverse.length = ks.length := List.length_reverse
  have hrnf : fs.reverse.length = ks.length := by rw [List.length_reverse, hlen]
  have hchr : (chkC ks.reverse fs.reverse).2 = 0 := chkC_of hrok (by omega)
  have hfr := flex_rev hok
  obtain ⟨p1, p2, p3⟩ := flex_pos hok hn0
  have hfl := fun (i : Nat) (hi : i < ks.length) => flex_le hok hi
  have hfb := flex_bd hok (Nat.le_refl ks.length)
  have HCE := Lib.hid (fun W (hb : Below w.heap.size w W) => rChainErr_any ks fs a1 a2 c1 c2 W (by omega) (hr1.to hb) (hr2.to hb))
  have HCC := Lib.hid (fun W (hb : Below w.heap.size w W) => CopyChain_any ks fs a1 a2 c1 c2 W (by omega) (by omega) (hr1.to hb) (hr2.to hb))
  have HST := Lib.hid (fun W x1 x2 e1 e2 (g1 : Reads W x1 ks.length (ints ks)) (g2 : Reads W x2 fs.length (ints fs)) => StiffnessOf_ok ks fs x1 x2 e1 e2 W (by omega) g1 g2 hchk)
  have HSR := Lib.hid (fun W x1 x2 e1 e2 (g1 : Reads W x1 ks.reverse.length (ints ks.reverse)) (g2 : Reads W x2 fs.reverse.length (ints fs.reverse)) => StiffnessOf_ok ks.reverse fs.reverse x1 x2 e1 e2 W (by omega) g1 g2 hchr)
  rw [hfr, hrn, hrnf] at HSR
  have HRK : Hid (∀ k j, k + j + 1 = ks.length → gi ks.reverse k = gi ks j ∧ gi fs.reverse k = gi fs j) := Lib.hid (fun k j h => ⟨by rw [gi_rev (by omega)]; congr 1; omega, by rw [gi_rev (by omega)]; congr 1; omega⟩)
  have HIL := Lib.hid (fun W => IsLowest_any (flexP ks ks.length).2 (flexP ks ks.length).1 W (by omega) (by omega))
  have hlow : lowB (flexP ks ks.length).2 (flexP ks ks.length).1 = true := by unfold lowB; rw [decide_eq_true p1, p3]; rfl
  rw [hlow] at HIL
  have HCM := Lib.hid (fun (i : Nat) (hi : i < ks.length) W => Compare_le (flexP ks ks.length).2 (flexP ks ks.length).1 (gi ks i) W p2 (by omega) p1 (by omega) (hok.k1 i hi).1 (hok.k1 i hi).2 (hfl i hi))
  unfold CPost at HCC
  obtain ⟨rk, hrk⟩ : ∃ l, ks.reverse = l := ⟨_, rfl⟩
  obtain ⟨rf, hrf⟩ : ∃ l, fs.reverse = l := ⟨_, rfl⟩
  obtain ⟨sd, hsd⟩ : ∃ z, (flexP ks ks.length).1 = z := ⟨_, rfl⟩
  obtain ⟨sn, hsn⟩ : ∃ z, (flexP ks ks.length).2 = z := ⟨_, rfl⟩
  rw [hrk] at hrn HSR HRK
  rw [hrf] at hrnf HSR HRK
  rw [hchk] at HCE
  have HHR1 := Lib.hid hr1
  have HHR2 := Lib.hid hr2
  have HOK := Lib.hid hok
  rw [hsd] at HST HSR HIL HCM p1
  rw [hsn] at HST HSR HIL HCM p2
  have HSN := Lib.hid p2
  rw [hlen] at HCE HCC HST hr2 hcf ⊢
  obtain ⟨n, hn⟩ : ∃ n, ks.length = n := ⟨_, rfl⟩
  rw [hn] at HCE HCC HST HSR HRK HCM hr1 hr2 hcf hck hrn hrnf hn0 hfew hlen ⊢
  have HR1 := Lib.hid hr1
  have HR2 := Lib.hid hr2
  have HCP1 := Lib.hid hck
  have HCP2 := Lib.hid hcf
  have HKN := Lib.hid hn
  have HFN := Lib.hid hlen
  have HRN := Lib.hid hrn
  have HRNF := Lib.hid hrnf
  have q1 : decide (6 < (n : Int)) = false := decide_eq_false (by omega)
  clear hok hchk hlen hrok hrn hrnf hchr hfr p1 p2 p3 hfl hfb hlow hrk hrf hsd hsn hn hr1 hr2 hcf hck
  go_enter Try.func9, Try.ntmps9
  go_wp2_with fail
  obtain ⟨w3, hw3⟩ : ∃ w3, (w.alloc (.cells (chV a1 n c1 a2 n c2) 73)).alloc (.cells #[.int .i64 x0, .int .i64 x1] 99) = w3 := ⟨_, rfl⟩
  rw [hw3]
  have K2 : Hid (Blk w3 w.heap.size (chV a1 n c1 a2 n c2)) := by subst hw3; exact Lib.hid ((Blk.new _ _ _).alloc _)
  have K3 : Hid (Blk w3 (w.heap.size + 1) #[.int .i64 x0, .int .i64 x1]) := by subst hw3; exact Lib.hid (Blk.newAt _ _ _ (by simp))
  have HB : Hid (Below w.heap.size w w3) := by subst hw3; exact Lib.hid (bAlloc (bAlloc (bSelf w) _) _)
  clear hw3
  refine (awake_any _).mono ?_
  rintro e w4 ⟨rfl, hb⟩
  replace K2 := Lib.hid (K2.out.to hb)
  replace K3 := Lib.hid (K3.out.to hb)
  replace HB := Lib.hid (bThen HB.out hb)
  clear hb
  obtain ⟨-, k2, -⟩ := K2.out
  go_wp2_with fail
  refine (HCE.out _ HB.out).mono ?_
  rintro e w5 ⟨rfl, hb⟩
  replace K2 := Lib.hid (K2.out.to hb)
  replace K3 := Lib.hid (K3.out.to hb)
  replace HB := Lib.hid (bThen HB.out hb)
  clear hb k2 q1 HCE
  obtain ⟨-, k2, -⟩ := K2.out
  go_wp2_with fail
  refine (HCC.out _ HB.out).mono ?_
  rintro e x5 ⟨y1, e1, y2, e2, rfl, -, ge, g1, g2, hb, -, -⟩
  replace K2 := Lib.hid (K2.out.to hb)
  replace K3 := Lib.hid (K3.out.to hb)
  replace HB := Lib.hid (bThen HB.out hb)
  have G1 := Lib.hid g1
  have G2 := Lib.hid g2
  have GE := Lib.hid ge
  clear hb k2 g1 g2 ge
  go_wp2_with fail
  refine (HST.out _ _ _ _ _ G1.out G2.out).mono ?_
  rintro e wA ⟨rfl, hb⟩
  replace K2 := Lib.hid (K2.out.to hb)
  replace K3 := Lib.hid (K3.out.to hb)
  replace HB := Lib.hid (bThen HB.out hb)
  clear hb G1 G2 GE HST
  go_upto_region 6 with (fail)
  obtain ⟨wB, hw⟩ : ∃ W, wA.alloc (.cells #[.int .i64 sn, .int .i64 sd] 86) = W := ⟨_, rfl⟩
  rw [hw]
  have hb : Below wA.heap.size wA wB := by subst hw; exact bAlloc (bSelf _) _
  have K5 : Hid (Blk wB wA.heap.size #[.int .i64 sn, .int .i64 sd]) := by subst hw; exact Lib.hid (Blk.new _ _ _)
  replace K2 := Lib.hid (K2.out.to hb)
  replace K3 := Lib.hid (K3.out.to hb)
  replace HB := Lib.hid (bThen HB.out hb)
  clear hb hw
  obtain ⟨B5, hB⟩ : ∃ B, wA.heap.size = B := ⟨_, rfl⟩
  rw [hB] at K5 ⊢
  clear hB
  go_upto_region 7 with (fail)
  have hK5 : B5 < wB.heap.size := K5.out.1
  have hK3 : w.heap.size + 1 < wB.heap.size := K3.out.1
  obtain ⟨wC, hw⟩ : ∃ W, wB.alloc (.cells #[.slice none 0 0, .slice none 0 0] 73) = W := ⟨_, rfl⟩
  rw [hw]
  have hb : Below wB.heap.size wB wC := by subst hw; exact bAlloc (bSelf _) _
  have K7 : Hid (Blk wC wB.heap.size #[.slice none 0 0, .slice none 0 0]) := by subst hw; exact Lib.hid (Blk.new _ _ _)
  replace K2 := Lib.hid (K2.out.to hb)
  replace K3 := Lib.hid (K3.out.to hb)
  replace K5 := Lib.hid (K5.out.to hb)
  replace HB := Lib.hid (bThen HB.out hb)
  clear hb hw
  obtain ⟨B7, hB⟩ : ∃ B, wB.heap.size = B := ⟨_, rfl⟩
  rw [hB] at K7 ⊢
  rw [hB] at hK5 hK3
  clear hB
  have HI0 : Hid (RevI rk rf w wC B7 0 (.slice none 0 0) (.slice none 0 0) wC) := Lib.hid ⟨K7.out, ⟨K7.out.1, World.ownsRow_nil _ _ _ _, World.ownsRow_nil _ _ _ _, fun g h => (by simp [Value.ownBlock] at h), fun p hp => (by cases hp)⟩, Below.refl _ _, HB.out⟩
  obtain ⟨-, k2, -⟩ := K2.out
  go_wp2_with fail
  clear k2 K7
  go_loopw [8] (fun iv wr => ∃ (k : Nat) (v1 v2 : Value), k ≤ n ∧ iv = .int .i64 ((n : Int) - 1 - k) ∧ wr.cell? ⟨B7, 0, none⟩ = some v1 ∧ wr.cell? ⟨B7, 1, none⟩ = some v2 ∧ Hid (RevI rk rf w wC B7 k v1 v2 wr)) (fun iv _ => (intOf iv + 1).toNat)
  case atStart => exact ⟨0, _, _, Nat.zero_le _, by simp, HI0.out.kb.2.1 0, HI0.out.kb.2.1 1, HI0⟩
  case round =>
    obtain ⟨k, v1, v2, hk, hiv, -, -, HI⟩ := hrel
    replace K2 := Lib.hid (K2.out.below HI.out.be (by omega))
    replace K3 := Lib.hid (K3.out.below HI.out.be (by omega))
    replace K5 := Lib.hid (K5.out.below HI.out.be hK5)
    replace HB := Lib.hid HI.out.bw
    clear HI0
    by_cases hlt : k < n
    · obtain ⟨j, hj⟩ : ∃ j, k + j + 1 = n := ⟨n - 1 - k, by omega⟩
      as_aux_lemma =>
        have hjv : (n : Int) - 1 - k = (j : Int) := by omega
        rw [hjv] at hiv
        subst hiv
        obtain ⟨hx, hy⟩ := HRK.out k j hj
        obtain ⟨bk, ok, rfl, hbk, hck⟩ := HR1.out.at (k := j) (by omega)
        obtain ⟨bf, of, rfl, hbf, hcf⟩ := HR2.out.at (k := j) (by omega)
        have KC : Hid (wr.cell? ⟨bk, ok + j, none⟩ = some (.int .i64 (gi rk k))) := Lib.hid (by rw [hx]; exact (HB.out.cell (p := ⟨bk, ok + j, none⟩) hbk).trans (hck j (by omega)))
        have KF : Hid (wr.cell? ⟨bf, of + j, none⟩ = some (.int .i64 (gi rf k))) := Lib.hid (by rw [hy]; exact (HB.out.cell (p := ⟨bf, of + j, none⟩) hbf).trans (hcf j (by omega)))
        have HSK : Hid (bk < wr.heap.size ∧ bf < wr.heap.size) := Lib.hid ⟨Nat.lt_of_lt_of_le hbk HB.out.size, Nat.lt_of_lt_of_le hbf HB.out.size⟩
        have HSB : Hid (bk < B7 ∧ bf < B7) := Lib.hid ⟨by omega, by omega⟩
        have HJ := Lib.hid hj
        have hjn : decide ((j : Int) < (n : Int)) = true := decide_eq_true (by omega)
        have hj0 : decide ((0 : Int) ≤ (j : Int)) = true := decide_eq_true (by omega)
        have hjl : j < n := by omega
        obtain ⟨x, hxx⟩ : ∃ z, gi rk k = z := ⟨_, rfl⟩
        obtain ⟨y, hyy⟩ : ∃ z, gi rf k = z := ⟨_, rfl⟩
        rw [hxx] at KC
        rw [hyy] at KF
        have HX := Lib.hid hxx
        have HY := Lib.hid hyy
        clear hx hy hck hcf hbk hbf hjv hxx hyy
        go_upto_region 10 with (fail)
        refine wp_region_treeTN (B7 + 1) 19 (by kernel_rfl) (by kernel_rfl) (fun wd hwd => ?_)
        have K7d := Lib.hid (HI.out.kb.to hwd)
        have K2d := Lib.hid (K2.out.to hwd)
        have KCd := Lib.hid ((hwd.cell (p := ⟨bk, ok + j, none⟩) HSK.out.1).trans KC.out)
        have KFd := Lib.hid ((hwd.cell (p := ⟨bf, of + j, none⟩) HSK.out.2).trans KF.out)
        have R0 := Lib.hid (HI.out.rs.to hwd)
        have T : Hid (Below (B7 + 1) wr wd) := Lib.hid (hwd.mono HI.out.kb.1)
        clear hwd
        refine WE_yes 0 rfl (by kernel_rfl) (fun _ _ _ _ _ h => h) (by rfl) ?_; apply Exists.intro; refine ⟨fun w1 hb1 => ?_, ?_⟩; (focus ((skip; have hb1 := Lib.hid hb1; go_simp); (try (go_bits; try go_simp)); (try (rw [if_pos (by omega)]; try go_simp)); (first | done | (fail) | (with_reducible rfl) | exact rfl)))
        simp only [Act.put, List.setIfInBounds_toArray, List.set_cons_zero, List.set_cons_succ]
        refine WE_yes 1 rfl (by kernel_rfl) (fun _ _ _ _ _ h => h) (by rfl) ?_; apply Exists.intro; refine ⟨fun w1 hb1 => ?_, ?_⟩; (focus (((obtain ⟨-, k7, -⟩ := K7d.out.below hb1 (Nat.lt_succ_self _)); have hb1 := Lib.hid hb1; go_simp); (try (go_bits; try go_simp)); (try (rw [if_pos (by omega)]; try go_simp)); (first | done | (fail) | (with_reducible rfl) | exact rfl)))
        simp only [Act.put, List.setIfInBounds_toArray, List.set_cons_zero, List.set_cons_succ]
        refine WE_yes 2 rfl (by kernel_rfl) (fun _ _ _ _ _ h => h) (by rfl) ?_; apply Exists.intro; refine ⟨fun w1 hb1 => ?_, ?_⟩; (focus ((skip; have hb1 := Lib.hid hb1; go_simp); (try (go_bits; try go_simp)); (try (rw [if_pos (by omega)]; try go_simp)); (first | done | (fail) | (with_reducible rfl) | exact rfl)))
        simp only [Act.put, List.setIfInBounds_toArray, List.set_cons_zero, List.set_cons_succ]
        refine WE_yes 3 rfl (by kernel_rfl) (fun _ _ _ _ _ h => h) (by rfl) ?_; apply Exists.intro; refine ⟨fun w1 hb1 => ?_, ?_⟩; (focus (((obtain ⟨-, k2, -⟩ := K2d.out.below hb1 (by omega)); have hb1 := Lib.hid hb1; go_simp); (try (go_bits; try go_simp)); (try (rw [if_pos (by omega)]; try go_simp)); (first | done | (fail) | (with_reducible rfl) | exact rfl)))
        simp only [Act.put, List.setIfInBounds_toArray, List.set_cons_zero, List.set_cons_succ]
        refine WE_yes 4 rfl (by kernel_rfl) (fun _ _ _ _ _ h => h) (by rfl) ?_; apply Exists.intro; refine ⟨fun w1 hb1 => ?_, ?_⟩; (focus ((skip; have hb1 := Lib.hid hb1; go_simp); (try (go_bits; try go_simp)); (try (rw [if_pos (by omega)]; try go_simp)); (first | done | (fail) | (with_reducible rfl) | exact rfl)))
        simp only [Act.put, List.setIfInBounds_toArray, List.set_cons_zero, List.set_cons_succ]
        refine WE_yes 5 rfl (by kernel_rfl) (fun _ _ _ _ _ h => h) (by rfl) ?_; apply Exists.intro; refine ⟨fun w1 hb1 => ?_, ?_⟩; (focus ((skip; have hb1 := Lib.hid hb1; go_simp); (try (go_bits; try go_simp)); (try (rw [if_pos (by omega)]; try go_simp)); (first | done | (fail) | (with_reducible rfl) | exact rfl)))
        simp only [Act.put, List.setIfInBounds_toArray, List.set_cons_zero, List.set_cons_succ]
        refine WE_yes 6 rfl (by kernel_rfl) (fun _ _ _ _ _ h => h) (by rfl) ?_; apply Exists.intro; refine ⟨fun w1 hb1 => ?_, ?_⟩; (focus (((have kc := (hb1.cell (p := ⟨bk, ok + j, none⟩) (Nat.lt_succ_of_lt HSB.out.1)).trans KCd.out); have hb1 := Lib.hid hb1; go_simp); (try (go_bits; try go_simp)); (try (rw [if_pos (by omega)]; try go_simp)); (first | done | (fail) | (with_reducible rfl) | exact rfl)))
        simp only [Act.put, List.setIfInBounds_toArray, List.set_cons_zero, List.set_cons_succ]
        refine WE_yes 9 rfl (by kernel_rfl) (fun _ _ _ _ _ h => h) (by rfl) ?_; apply Exists.intro; refine ⟨fun w1 hb1 => ?_, ?_⟩; (focus ((skip; have hb1 := Lib.hid hb1; go_simp); (try (go_bits; try go_simp)); (try (rw [if_pos (by omega)]; try go_simp)); (first | done | (fail) | (with_reducible rfl) | exact rfl)))
        simp only [Act.put, List.setIfInBounds_toArray, List.set_cons_zero, List.set_cons_succ]
        refine WE_yes 10 rfl (by kernel_rfl) (fun _ _ _ _ _ h => h) (by rfl) ?_; apply Exists.intro; refine ⟨fun w1 hb1 => ?_, ?_⟩; (focus (((obtain ⟨-, k7, -⟩ := K7d.out.below hb1 (Nat.lt_succ_self _)); have hb1 := Lib.hid hb1; go_simp); (try (go_bits; try go_simp)); (try (rw [if_pos (by omega)]; try go_simp)); (first | done | (fail) | (with_reducible rfl) | exact rfl)))
        simp only [Act.put, List.setIfInBounds_toArray, List.set_cons_zero, List.set_cons_succ]
        refine WE_yes 11 rfl (by kernel_rfl) (fun _ _ _ _ _ h => h) (by rfl) ?_; apply Exists.intro; refine ⟨fun w1 hb1 => ?_, ?_⟩; (focus ((skip; have hb1 := Lib.hid hb1; go_simp); (try (go_bits; try go_simp)); (try (rw [if_pos (by omega)]; try go_simp)); (first | done | (fail) | (with_reducible rfl) | exact rfl)))
        simp only [Act.put, List.setIfInBounds_toArray, List.set_cons_zero, List.set_cons_succ]
        refine WE_yes 12 rfl (by kernel_rfl) (fun _ _ _ _ _ h => h) (by rfl) ?_; apply Exists.intro; refine ⟨fun w1 hb1 => ?_, ?_⟩; (focus (((obtain ⟨-, k2, -⟩ := K2d.out.below hb1 (by omega)); have hb1 := Lib.hid hb1; go_simp); (try (go_bits; try go_simp)); (try (rw [if_pos (by omega)]; try go_simp)); (first | done | (fail) | (with_reducible rfl) | exact rfl)))
        simp only [Act.put, List.setIfInBounds_toArray, List.set_cons_zero, List.set_cons_succ]
        refine WE_yes 13 rfl (by kernel_rfl) (fun _ _ _ _ _ h => h) (by rfl) ?_; apply Exists.intro; refine ⟨fun w1 hb1 => ?_, ?_⟩; (focus ((skip; have hb1 := Lib.hid hb1; go_simp); (try (go_bits; try go_simp)); (try (rw [if_pos (by omega)]; try go_simp)); (first | done | (fail) | (with_reducible rfl) | exact rfl)))
        simp only [Act.put, List.setIfInBounds_toArray, List.set_cons_zero, List.set_cons_succ]
        refine WE_yes 14 rfl (by kernel_rfl) (fun _ _ _ _ _ h => h) (by rfl) ?_; apply Exists.intro; refine ⟨fun w1 hb1 => ?_, ?_⟩; (focus ((skip; have hb1 := Lib.hid hb1; go_simp); (try (go_bits; try go_simp)); (try (rw [if_pos (by omega)]; try go_simp)); (first | done | (fail) | (with_reducible rfl) | exact rfl)))
        simp only [Act.put, List.setIfInBounds_toArray, List.set_cons_zero, List.set_cons_succ]
        refine WE_yes 15 rfl (by kernel_rfl) (fun _ _ _ _ _ h => h) (by rfl) ?_; apply Exists.intro; refine ⟨fun w1 hb1 => ?_, ?_⟩; (focus (((have kc := (hb1.cell (p := ⟨bf, of + j, none⟩) (Nat.lt_succ_of_lt HSB.out.2)).trans KFd.out); have hb1 := Lib.hid hb1; go_simp); (try (go_bits; try go_simp)); (try (rw [if_pos (by omega)]; try go_simp)); (first | done | (fail) | (with_reducible rfl) | exact rfl)))
        simp only [Act.put, List.setIfInBounds_toArray, List.set_cons_zero, List.set_cons_succ]
        clear KCd KFd K2d
        refine WE_two 7 16 rfl rfl (by decide) (by decide) (by kernel_rfl) ?_ ?_
        · skip
          unfold stepE
          go_wp2_with fail
          refine ⟨R0.out.belowA _, ?_⟩
          have RX1 := Lib.hid (R0.out.alloc x 3)
          have TE := R0.out.belowA (.cells #[.int .i64 x] 3)
          have TD := Lib.hid ((Below.refl (B7 + 1) wd).trans TE)
          obtain ⟨wx1, hw⟩ : ∃ z, wd.alloc (.cells #[.int .i64 x] 3) = z := ⟨_, rfl⟩
          rw [hw] at RX1 TD ⊢
          obtain ⟨s1, hs⟩ : ∃ z, wd.heap.size = z := ⟨_, rfl⟩
          rw [hs] at RX1 ⊢
          clear hw hs TE
          refine WE_two 8 16 rfl rfl (by decide) (by decide) (by kernel_rfl) ?_ ?_
          · skip
            unfold stepE
            have HNN := Lib.hid (Blk.news (RX1.out.tm (s1, x) (by simp)).1)
            have HROW := Lib.hid RX1.out.r1
            go_wp2_with (at_builtin; (refine wpList_app (B7 + 1) rtInt rfl (.tmp 58) (.tmp 64) rfl _ _ _ rfl HROW.out ⟨s1, 0, none⟩ 1 1 [.int .i64 x] rfl rfl HNN.out (ones [x]) (by unfold maxLen; omega) (by omega) (by first | exact Nat.le_of_lt RX1.out.lt | exact RX1.out.lt) ?_; intro v4 w22 hown' hgrow _ hwhere; obtain ⟨g2, cp2, rfl⟩ := ownsRow_succ hown'; have HOW := Lib.hid hown'; have HGR := Lib.hid hgrow; have HWH := Lib.hid hwhere; clear hown' hgrow hwhere))
            have RB := RX1.out.app1 HOW.out HGR.out HWH.out
            refine ⟨RB.2, ?_⟩
            have RX2 := Lib.hid RB.1
            replace TD := Lib.hid (TD.out.trans RB.2)
            clear RB HOW HGR HWH HNN HROW
            refine WE_yes 18 rfl (by kernel_rfl) (fun _ _ _ _ _ h => h) (by rfl) ?_; apply Exists.intro; refine ⟨fun w1 hb1 => ?_, ?_⟩; (focus ((skip; have hb1 := Lib.hid hb1; go_simp); (try (go_bits; try go_simp)); (try (rw [if_pos (by omega)]; try go_simp)); (first | done | (fail) | (with_reducible rfl) | exact rfl)))
            simp only [Act.put, List.setIfInBounds_toArray, List.set_cons_zero, List.set_cons_succ]
            refine WE_one 16 rfl (by decide) (by kernel_rfl) ?_
            unfold stepE
            go_wp2_with fail
            refine ⟨RX2.out.belowA _, ?_⟩
            have RX3 := Lib.hid (RX2.out.alloc y 3)
            have TE := RX2.out.belowA (.cells #[.int .i64 y] 3)
            have TD := Lib.hid (TD.out.trans TE)
            obtain ⟨wx3, hw⟩ : ∃ z, w22.alloc (.cells #[.int .i64 y] 3) = z := ⟨_, rfl⟩
            rw [hw] at RX3 TD ⊢
            obtain ⟨s3, hs⟩ : ∃ z, w22.heap.size = z := ⟨_, rfl⟩
            rw [hs] at RX3 ⊢
            clear hw hs TE
            refine WE_one 17 rfl (by decide) (by kernel_rfl) ?_
            unfold stepE
            have HNN := Lib.hid (Blk.news (RX3.out.tm (s3, y) (by simp)).1)
            have HROW := Lib.hid RX3.out.r2
            go_wp2_with (at_builtin; (refine wpList_app (B7 + 1) rtInt rfl (.tmp 67) (.tmp 73) rfl _ _ _ rfl HROW.out ⟨s3, 0, none⟩ 1 1 [.int .i64 y] rfl rfl HNN.out (ones [y]) (by unfold maxLen; omega) (by omega) (by first | exact Nat.le_of_lt RX3.out.lt | exact RX3.out.lt) ?_; intro v6 w24 hown' hgrow _ hwhere; obtain ⟨g4, cp4, rfl⟩ := ownsRow_succ hown'; have HOW := Lib.hid hown'; have HGR := Lib.hid hgrow; have HWH := Lib.hid hwhere; clear hown' hgrow hwhere))
            have RB := RX3.out.app2 HOW.out HGR.out HWH.out
            refine ⟨RB.2, ?_⟩
            have RX4 := Lib.hid RB.1
            replace TD := Lib.hid (TD.out.trans RB.2)
            clear RB HOW HGR HWH HNN HROW
            refine WE_tail rfl (by kernel_rfl) ?_
            simp only [List.drop_succ_cons, List.drop_zero]
            have K7e := Lib.hid (K7d.out.below TD.out (Nat.lt_succ_self _))
            obtain ⟨-, k7, f7⟩ := K7e.out
            go_wp2_with fail
            clear k7 f7
            have HN := Lib.hid (HI.out.next (by rw [HRN.out]; omega) (by rw [HRNF.out]; omega) (by omega) (T.out.trans TD.out) (by rw [HX.out, HY.out]; exact RX4.out))
            go_roundw
            case rel => exact ⟨k + 1, _, _, by omega, by go_num, HN.out.kb.2.1 0, HN.out.kb.2.1 1, HN⟩
            case measure => simp [intOf]
          · skip
            unfold stepE
            go_wp2_with fail
            refine ⟨RX1.out.belowA _, ?_⟩
            have RX5 := Lib.hid (RX1.out.alloc y 3)
            have TE := RX1.out.belowA (.cells #[.int .i64 y] 3)
            have TD := Lib.hid (TD.out.trans TE)
            obtain ⟨wx5, hw⟩ : ∃ z, wx1.alloc (.cells #[.int .i64 y] 3) = z := ⟨_, rfl⟩
            rw [hw] at RX5 TD ⊢
            obtain ⟨s5, hs⟩ : ∃ z, wx1.heap.size = z := ⟨_, rfl⟩
            rw [hs] at RX5 ⊢
            clear hw hs TE
            refine WE_one 8 rfl (by decide) (by kernel_rfl) ?_
            unfold stepE
            have HNN := Lib.hid (Blk.news (RX5.out.tm (s1, x) (by simp)).1)
            have HROW := Lib.hid RX5.out.r1
            go_wp2_with (at_builtin; (refine wpList_app (B7 + 1) rtInt rfl (.tmp 58) (.tmp 64) rfl _ _ _ rfl HROW.out ⟨s1, 0, none⟩ 1 1 [.int .i64 x] rfl rfl HNN.out (ones [x]) (by unfold maxLen; omega) (by omega) (by first | exact Nat.le_of_lt RX5.out.lt | exact RX5.out.lt) ?_; intro v8 w26 hown' hgrow _ hwhere; obtain ⟨g6, cp6, rfl⟩ := ownsRow_succ hown'; have HOW := Lib.hid hown'; have HGR := Lib.hid hgrow; have HWH := Lib.hid hwhere; clear hown' hgrow hwhere))
            have RB := RX5.out.app1 HOW.out HGR.out HWH.out
            refine ⟨RB.2, ?_⟩
            have RX6 := Lib.hid RB.1
            replace TD := Lib.hid (TD.out.trans RB.2)
            clear RB HOW HGR HWH HNN HROW
            refine WE_yes 18 rfl (by kernel_rfl) (fun _ _ _ _ _ h => h) (by rfl) ?_; apply Exists.intro; refine ⟨fun w1 hb1 => ?_, ?_⟩; (focus ((skip; have hb1 := Lib.hid hb1; go_simp); (try (go_bits; try go_simp)); (try (rw [if_pos (by omega)]; try go_simp)); (first | done | (fail) | (with_reducible rfl) | exact rfl)))
            simp only [Act.put, List.setIfInBounds_toArray, List.set_cons_zero, List.set_cons_succ]
            refine WE_one 17 rfl (by decide) (by kernel_rfl) ?_
            unfold stepE
            have HNN := Lib.hid (Blk.news (RX6.out.tm (s5, y) (by simp)).1)
            have HROW := Lib.hid RX6.out.r2
            go_wp2_with (at_builtin; (refine wpList_app (B7 + 1) rtInt rfl (.tmp 67) (.tmp 73) rfl _ _ _ rfl HROW.out ⟨s5, 0, none⟩ 1 1 [.int .i64 y] rfl rfl HNN.out (ones [y]) (by unfold maxLen; omega) (by omega) (by first | exact Nat.le_of_lt RX6.out.lt | exact RX6.out.lt) ?_; intro v9 w27 hown' hgrow _ hwhere; obtain ⟨g7, cp7, rfl⟩ := ownsRow_succ hown'; have HOW := Lib.hid hown'; have HGR := Lib.hid hgrow; have HWH := Lib.hid hwhere; clear hown' hgrow hwhere))
            have RB := RX6.out.app2 HOW.out HGR.out HWH.out
            refine ⟨RB.2, ?_⟩
            have RX7 := Lib.hid RB.1
            replace TD := Lib.hid (TD.out.trans RB.2)
            clear RB HOW HGR HWH HNN HROW
            refine WE_tail rfl (by kernel_rfl) ?_
            simp only [List.drop_succ_cons, List.drop_zero]
            have K7e := Lib.hid (K7d.out.below TD.out (Nat.lt_succ_self _))
            obtain ⟨-, k7, f7⟩ := K7e.out
            go_wp2_with fail
            clear k7 f7
            have HN := Lib.hid (HI.out.next (by rw [HRN.out]; omega) (by rw [HRNF.out]; omega) (by omega) (T.out.trans TD.out) (by rw [HX.out, HY.out]; exact RX7.out))
            go_roundw
            case rel => exact ⟨k + 1, _, _, by omega, by go_num, HN.out.kb.2.1 0, HN.out.kb.2.1 1, HN⟩
            case measure => simp [intOf]
        · skip
          unfold stepE
          go_wp2_with fail
          refine ⟨R0.out.belowA _, ?_⟩
          have RX8 := Lib.hid (R0.out.alloc y 3)
          have TE := R0.out.belowA (.cells #[.int .i64 y] 3)
          have TD := Lib.hid ((Below.refl (B7 + 1) wd).trans TE)
          obtain ⟨wx8, hw⟩ : ∃ z, wd.alloc (.cells #[.int .i64 y] 3) = z := ⟨_, rfl⟩
          rw [hw] at RX8 TD ⊢
          obtain ⟨s8, hs⟩ : ∃ z, wd.heap.size = z := ⟨_, rfl⟩
          rw [hs] at RX8 ⊢
          clear hw hs TE
          refine WE_one 7 rfl (by decide) (by kernel_rfl) ?_
          unfold stepE
          go_wp2_with fail
          refine ⟨RX8.out.belowA _, ?_⟩
          have RX9 := Lib.hid (RX8.out.alloc x 3)
          have TE := RX8.out.belowA (.cells #[.int .i64 x] 3)
          have TD := Lib.hid (TD.out.trans TE)
          obtain ⟨wx9, hw⟩ : ∃ z, wx8.alloc (.cells #[.int .i64 x] 3) = z := ⟨_, rfl⟩
          rw [hw] at RX9 TD ⊢
          obtain ⟨s9, hs⟩ : ∃ z, wx8.heap.size = z := ⟨_, rfl⟩
          rw [hs] at RX9 ⊢
          clear hw hs TE
          refine WE_one 8 rfl (by decide) (by kernel_rfl) ?_
          unfold stepE
          have HNN := Lib.hid (Blk.news (RX9.out.tm (s9, x) (by simp)).1)
          have HROW := Lib.hid RX9.out.r1
          go_wp2_with (at_builtin; (refine wpList_app (B7 + 1) rtInt rfl (.tmp 58) (.tmp 64) rfl _ _ _ rfl HROW.out ⟨s9, 0, none⟩ 1 1 [.int .i64 x] rfl rfl HNN.out (ones [x]) (by unfold maxLen; omega) (by omega) (by first | exact Nat.le_of_lt RX9.out.lt | exact RX9.out.lt) ?_; intro v12 w30 hown' hgrow _ hwhere; obtain ⟨g10, cp10, rfl⟩ := ownsRow_succ hown'; have HOW := Lib.hid hown'; have HGR := Lib.hid hgrow; have HWH := Lib.hid hwhere; clear hown' hgrow hwhere))
          have RB := RX9.out.app1 HOW.out HGR.out HWH.out
          refine ⟨RB.2, ?_⟩
          have RX10 := Lib.hid RB.1
          replace TD := Lib.hid (TD.out.trans RB.2)
          clear RB HOW HGR HWH HNN HROW
          refine WE_yes 18 rfl (by kernel_rfl) (fun _ _ _ _ _ h => h) (by rfl) ?_; apply Exists.intro; refine ⟨fun w1 hb1 => ?_, ?_⟩; (focus ((skip; have hb1 := Lib.hid hb1; go_simp); (try (go_bits; try go_simp)); (try (rw [if_pos (by omega)]; try go_simp)); (first | done | (fail) | (with_reducible rfl) | exact rfl)))
          simp only [Act.put, List.setIfInBounds_toArray, List.set_cons_zero, List.set_cons_succ]
          refine WE_one 17 rfl (by decide) (by kernel_rfl) ?_
          unfold stepE
          have HNN := Lib.hid (Blk.news (RX10.out.tm (s8, y) (by simp)).1)
          have HROW := Lib.hid RX10.out.r2
          go_wp2_with (at_builtin; (refine wpList_app (B7 + 1) rtInt rfl (.tmp 67) (.tmp 73) rfl _ _ _ rfl HROW.out ⟨s8, 0, none⟩ 1 1 [.int .i64 y] rfl rfl HNN.out (ones [y]) (by unfold maxLen; omega) (by omega) (by first | exact Nat.le_of_lt RX10.out.lt | exact RX10.out.lt) ?_; intro v13 w31 hown' hgrow _ hwhere; obtain ⟨g11, cp11, rfl⟩ := ownsRow_succ hown'; have HOW := Lib.hid hown'; have HGR := Lib.hid hgrow; have HWH := Lib.hid hwhere; clear hown' hgrow hwhere))
          have RB := RX10.out.app2 HOW.out HGR.out HWH.out
          refine ⟨RB.2, ?_⟩
          have RX11 := Lib.hid RB.1
          replace TD := Lib.hid (TD.out.trans RB.2)
          clear RB HOW HGR HWH HNN HROW
          refine WE_tail rfl (by kernel_rfl) ?_
          simp only [List.drop_succ_cons, List.drop_zero]
          have K7e := Lib.hid (K7d.out.below TD.out (Nat.lt_succ_self _))
          obtain ⟨-, k7, f7⟩ := K7e.out
          go_wp2_with fail
          clear k7 f7
          have HN := Lib.hid (HI.out.next (by rw [HRN.out]; omega) (by rw [HRNF.out]; omega) (by omega) (T.out.trans TD.out) (by rw [HX.out, HY.out]; exact RX11.out))
          go_roundw
          case rel => exact ⟨k + 1, _, _, by omega, by go_num, HN.out.kb.2.1 0, HN.out.kb.2.1 1, HN⟩
          case measure => simp [intOf]
    · skip
      obtain rfl : n = k := by omega
      have hiv2 : ((n : Nat) : Int) - 1 - (n : Int) = -1 := by omega
      rw [hiv2] at hiv
      subst hiv
      have hO1 := HI.out.rs.r1
      have hO2 := HI.out.rs.r2
      rw [List.take_of_length_le (by rw [HRN.out]; exact Nat.le_refl _)] at hO1
      rw [List.take_of_length_le (by rw [HRNF.out]; exact Nat.le_refl _)] at hO2
      obtain ⟨y1, e1, rfl, -, hrd1, -⟩ := Reads.of_owns' (zs := rk) (by rw [HRN.out]; exact hO1)
      obtain ⟨y2, e2, rfl, -, hrd2, -⟩ := Reads.of_owns' (zs := rf) (by rw [HRNF.out]; exact hO2)
      rw [HRN.out] at hrd1 HI
      rw [HRNF.out] at hrd2 HI
      have G1 := Lib.hid hrd1
      have G2 := Lib.hid hrd2
      have K7 := Lib.hid HI.out.kb
      clear hiv2 hO1 hO2 hrd1 hrd2 HI hlt
      obtain ⟨-, k7, -⟩ := K7.out
      go_wp2_with fail
      refine (HSR.out _ _ _ _ _ G1.out G2.out).mono ?_
      rintro e wD ⟨rfl, hb⟩
      replace K2 := Lib.hid (K2.out.to hb)
      replace K3 := Lib.hid (K3.out.to hb)
      replace K5 := Lib.hid (K5.out.to hb)
      replace HB := Lib.hid (bThen HB.out hb)
      clear hb k7 K7 G1 G2 HSR
      go_upto_region 12 with (fail)
      obtain ⟨wE, hw⟩ : ∃ W, wD.alloc (.cells #[.int .i64 sn, .int .i64 sd] 86) = W := ⟨_, rfl⟩
      rw [hw]
      have hb : Below wD.heap.size wD wE := by subst hw; exact bAlloc (bSelf _) _
      have K9 : Hid (Blk wE wD.heap.size #[.int .i64 sn, .int .i64 sd]) := by subst hw; exact Lib.hid (Blk.new _ _ _)
      replace K2 := Lib.hid (K2.out.to hb)
      replace K3 := Lib.hid (K3.out.to hb)
      replace K5 := Lib.hid (K5.out.to hb)
      replace HB := Lib.hid (bThen HB.out hb)
      clear hb hw
      obtain ⟨B9, hB⟩ : ∃ B, wD.heap.size = B := ⟨_, rfl⟩
      rw [hB] at K9 ⊢
      clear hB
      have HSP := Lib.hid (show decide (sn ≤ 0) = false from decide_eq_false (by have := HSN.out; omega))
      have hsp := HSP.out
      obtain ⟨-, k5, -⟩ := K5.out
      obtain ⟨-, k9, -⟩ := K9.out
      go_wp2_with fail
      refine (HIL.out _).mono ?_
      rintro e wF ⟨rfl, hb⟩
      replace K2 := Lib.hid (K2.out.to hb)
      replace K3 := Lib.hid (K3.out.to hb)
      replace K5 := Lib.hid (K5.out.to hb)
      replace HB := Lib.hid (bThen HB.out hb)
      clear hb k5 k9 K9
      obtain ⟨-, k5, -⟩ := K5.out
      go_wp2_with fail
      clear k5 hsp HSP HRN HRNF hk
      go_loopw [11] (fun iv wr => ∃ k : Nat, k ≤ n ∧ iv = .int .i64 k ∧ Hid (Below wF.heap.size wF wr)) (fun iv _ => n - (intOf iv).toNat)
      case atStart => exact ⟨0, Nat.zero_le _, rfl, Lib.hid (bSelf wF)⟩
      case round =>
        obtain ⟨k, hk, rfl, hBk⟩ := hrel
        replace K2 := Lib.hid (K2.out.to hBk.out)
        replace K3 := Lib.hid (K3.out.to hBk.out)
        replace K5 := Lib.hid (K5.out.to hBk.out)
        replace HB := Lib.hid (bThen HB.out hBk.out)
        by_cases hlt : k < n
        · have hltI : decide ((k : Int) < (n : Int)) = true := decide_eq_true (by omega)
          as_aux_lemma =>
            obtain ⟨b, off, rfl, hb', hc'⟩ := (HR1.out.to HB.out).at (k := k) (by omega)
            have KC := Lib.hid (hc' k (by omega))
            unfold ints at KC
            have HCK := Lib.hid (HCM.out k hlt)
            obtain ⟨z, hz⟩ : ∃ z, gi ks k = z := ⟨_, rfl⟩
            rw [hz] at KC HCK
            clear hc' hz
            obtain ⟨-, k2, -⟩ := K2.out
            go_upto_region 17 with (fail)
            clear k2
            refine wp_region_tree (by kernel_rfl) (fun wd hwd => ?_)
            have T := Lib.hid hwd
            clear hwd
            refine WT_yes 0 rfl (by kernel_rfl) (fun _ _ _ _ _ h => h) (by rfl) ?_; apply Exists.intro; refine ⟨fun w1 hb1 => ?_, ?_⟩; (focus ((skip; have hb1 := Lib.hid hb1; go_simp); (try (go_bits; try go_simp)); (try (rw [if_pos (by omega)]; try go_simp)); (first | done | (fail) | (with_reducible rfl) | exact rfl)))
            simp only [Act.put, List.setIfInBounds_toArray, List.set_cons_zero, List.set_cons_succ]
            refine WT_yes 1 rfl (by kernel_rfl) (fun _ _ _ _ _ h => h) (by rfl) ?_; apply Exists.intro; refine ⟨fun w1 hb1 => ?_, ?_⟩; (focus (((obtain ⟨-, k5, -⟩ := K5.out.to (T.out.trans hb1)); have hb1 := Lib.hid hb1; go_simp); (try (go_bits; try go_simp)); (try (rw [if_pos (by omega)]; try go_simp)); (first | done | (fail) | (with_reducible rfl) | exact rfl)))
            simp only [Act.put, List.setIfInBounds_toArray, List.set_cons_zero, List.set_cons_succ]
            refine WT_yes 2 rfl (by kernel_rfl) (fun _ _ _ _ _ h => h) (by rfl) ?_; apply Exists.intro; refine ⟨fun w1 hb1 => ?_, ?_⟩; (focus ((skip; have hb1 := Lib.hid hb1; go_simp); (try (go_bits; try go_simp)); (try (rw [if_pos (by omega)]; try go_simp)); (first | done | (fail) | (with_reducible rfl) | exact rfl)))
            simp only [Act.put, List.setIfInBounds_toArray, List.set_cons_zero, List.set_cons_succ]
            refine WT_yes 3 rfl (by kernel_rfl) (fun _ _ _ _ _ h => h) (by rfl) ?_; apply Exists.intro; refine ⟨fun w1 hb1 => ?_, ?_⟩; (focus (((obtain ⟨-, k5, -⟩ := K5.out.to (T.out.trans hb1)); have hb1 := Lib.hid hb1; go_simp); (try (go_bits; try go_simp)); (try (rw [if_pos (by omega)]; try go_simp)); (first | done | (fail) | (with_reducible rfl) | exact rfl)))
            simp only [Act.put, List.setIfInBounds_toArray, List.set_cons_zero, List.set_cons_succ]
            refine WT_yes 4 rfl (by kernel_rfl) (fun _ _ _ _ _ h => h) (by rfl) ?_; apply Exists.intro; refine ⟨fun w1 hb1 => ?_, ?_⟩; (focus ((skip; have hb1 := Lib.hid hb1; go_simp); (try (go_bits; try go_simp)); (try (rw [if_pos (by omega)]; try go_simp)); (first | done | (fail) | (with_reducible rfl) | exact rfl)))
            simp only [Act.put, List.setIfInBounds_toArray, List.set_cons_zero, List.set_cons_succ]
            refine WT_yes 5 rfl (by kernel_rfl) (fun _ _ _ _ _ h => h) (by rfl) ?_; apply Exists.intro; refine ⟨fun w1 hb1 => ?_, ?_⟩; (focus (((obtain ⟨-, k2, -⟩ := K2.out.to (T.out.trans hb1)); have hb1 := Lib.hid hb1; go_simp); (try (go_bits; try go_simp)); (try (rw [if_pos (by omega)]; try go_simp)); (first | done | (fail) | (with_reducible rfl) | exact rfl)))
            simp only [Act.put, List.setIfInBounds_toArray, List.set_cons_zero, List.set_cons_succ]
            refine WT_yes 6 rfl (by kernel_rfl) (fun _ _ _ _ _ h => h) (by rfl) ?_; apply Exists.intro; refine ⟨fun w1 hb1 => ?_, ?_⟩; (focus ((skip; have hb1 := Lib.hid hb1; go_simp); (try (go_bits; try go_simp)); (try (rw [if_pos (by omega)]; try go_simp)); (first | done | (fail) | (with_reducible rfl) | exact rfl)))
            simp only [Act.put, List.setIfInBounds_toArray, List.set_cons_zero, List.set_cons_succ]
            refine WT_yes 7 rfl (by kernel_rfl) (fun _ _ _ _ _ h => h) (by rfl) ?_; apply Exists.intro; refine ⟨fun w1 hb1 => ?_, ?_⟩; (focus ((skip; have hb1 := Lib.hid hb1; go_simp); (try (go_bits; try go_simp)); (try (rw [if_pos (by omega)]; try go_simp)); (first | done | (fail) | (with_reducible rfl) | exact rfl)))
            simp only [Act.put, List.setIfInBounds_toArray, List.set_cons_zero, List.set_cons_succ]
            refine WT_yes 8 rfl (by kernel_rfl) (fun _ _ _ _ _ h => h) (by rfl) ?_; apply Exists.intro; refine ⟨fun w1 hb1 => ?_, ?_⟩; (focus (((have kc := ((T.out.trans hb1).cell (p := ⟨b, off + k, none⟩) hb').trans KC.out); have hb1 := Lib.hid hb1; go_simp); (try (go_bits; try go_simp)); (try (rw [if_pos (by omega)]; try go_simp)); (first | done | (fail) | (with_reducible rfl) | exact rfl)))
            simp only [Act.put, List.setIfInBounds_toArray, List.set_cons_zero, List.set_cons_succ]
            refine WT_one 9 rfl (by kernel_rfl) ?_
            unfold stepT
            go_wp2_with fail
            refine (HCK.out _).mono ?_
            rintro e w' ⟨⟨c, rfl, hc⟩, rfl⟩
            have hcd : decide (0 < c) = false := decide_eq_false (by omega)
            go_wp2_with fail
            refine ⟨Below.refl _ _, ?_⟩
            refine WT_yes 10 rfl (by kernel_rfl) (fun _ _ _ _ _ h => h) (by rfl) ?_; apply Exists.intro; refine ⟨fun w1 hb1 => ?_, ?_⟩; (focus ((skip; have hb1 := Lib.hid hb1; go_simp); (try (go_bits; try go_simp)); (try (rw [if_pos (by omega)]; try go_simp)); (first | done | (fail) | (with_reducible rfl) | exact rfl)))
            simp only [Act.put, List.setIfInBounds_toArray, List.set_cons_zero, List.set_cons_succ]
            refine WT_done (by kernel_rfl) ?_
            go_wp2_with fail
            go_roundw
            case rel => exact ⟨k + 1, by omega, by go_num, Lib.hid (bThen hBk.out T.out)⟩
            case measure => simp [intOf]; omega
        · have hltI : decide ((k : Int) < (n : Int)) = false := decide_eq_false (by omega)
          obtain ⟨wG, hwG⟩ : ∃ z, z = wr := ⟨_, rfl⟩
          subst hwG
          have hchk := chkC_of HOK.out (by rw [HKN.out]; exact hn0)
          have hok := HOK.out
          obtain ⟨nd, hnd⟩ : ∃ nd : Nat, x0 % (n : Int) = (nd : Int) := ⟨(x0 % (n : Int)).toNat, by have := Int.emod_nonneg x0 (show (n : Int) ≠ 0 by omega); omega⟩
          have hndn : nd < n := by have := Int.emod_lt_of_pos x0 (show (0 : Int) < n by omega); omega
          have hnd0 : ndE ks fs nd = 0 := node_ok hchk (by rw [HKN.out, decide_eq_true (show (0 : Int) ≤ (nd : Int) by omega), decide_eq_true (show (nd : Int) ≤ (n : Int) - 1 by omega)]; rfl)
          have HMD := Lib.hid (fun W => Mod_any x0 n W (by omega) (by omega))
          rw [hnd] at HMD
          obtain ⟨at', hat⟩ : ∃ a : Nat, x1 % (n : Int) = (a : Int) := ⟨(x1 % (n : Int)).toNat, by have := Int.emod_nonneg x1 (show (n : Int) ≠ 0 by omega); omega⟩
          have hatn : at' < n := by have := Int.emod_lt_of_pos x1 (show (0 : Int) < n by omega); omega
          have HMD1 := Lib.hid (fun W => Mod_any x1 n W (by omega) (by omega))
          rw [hat] at HMD1
          have HMU := Lib.hid (fun W y1 y2 e1 e2 (ge : fs.length ≤ e2) (g1 : Reads W y1 ks.length (ints ks)) (g2 : Reads W y2 fs.length (ints fs)) => MovedOf_u ks fs y1 y2 e1 e2 W (by rw [HKN.out]; omega) ge g1 g2)
          have HHU := Lib.hid (fun W y1 y2 e1 e2 (ge : fs.length ≤ e2) (g1 : Reads W y1 ks.length (ints ks)) (g2 : Reads W y2 fs.length (ints fs)) => HalvesOf_u ks fs nd y1 y2 e1 e2 W (by rw [HKN.out]; omega) ge g1 g2)
          unfold MUPost at HMU
          unfold HUPost at HHU
          rw [HKN.out, HFN.out] at HMU HHU
          clear hnd hat HCM hBk K5
          cases hmo : mvO ks fs with
          | none =>
            have e1 : mvR ks fs = ([], 8) := by unfold mvR; rw [hchk, hmo]; rfl
            have e2 : hvR ks fs nd = (([], [], 0), 8) := by unfold hvR; rw [hnd0, hmo]; rfl
            rw [e1] at HMU
            rw [e2] at HHU
            dsimp only at HMU HHU
            simp only [List.length_nil] at HMU HHU
            clear e1 e2
            clear hmo HMD1
            as_aux_lemma =>
              obtain ⟨-, k2, -⟩ := K2.out
              go_wp2_with fail
              refine (HCC.out _ HB.out).mono ?_
              rintro e x19 ⟨y1, e1, y2, e2, rfl, -, ge, g1, g2, hb, -, -⟩
              replace K2 := Lib.hid (K2.out.to hb)
              replace K3 := Lib.hid (K3.out.to hb)
              replace HB := Lib.hid (bThen HB.out hb)
              have G1 := Lib.hid g1
              have G2 := Lib.hid g2
              have GE := Lib.hid ge
              clear hb k2 g1 g2 ge
              go_wp2_with fail
              refine (HMU.out _ _ _ _ _ GE.out G1.out G2.out).mono ?_
              rintro e wH ⟨am, cm, rfl, -, hb⟩
              replace K2 := Lib.hid (K2.out.to hb)
              replace K3 := Lib.hid (K3.out.to hb)
              replace HB := Lib.hid (bThen HB.out hb)
              clear hb G1 G2 GE HMU
              obtain ⟨-, k2, -⟩ := K2.out
              obtain ⟨-, k3, -⟩ := K3.out
              go_wp2_with fail
              refine (HMD.out _).mono ?_
              rintro e w' ⟨rfl, rfl⟩
              clear k3 HMD
              go_wp2_with fail
              refine (HCC.out _ HB.out).mono ?_
              rintro e x21 ⟨y1, e1, y2, e2, rfl, -, ge, g1, g2, hb, -, -⟩
              replace K2 := Lib.hid (K2.out.to hb)
              replace K3 := Lib.hid (K3.out.to hb)
              replace HB := Lib.hid (bThen HB.out hb)
              have G1 := Lib.hid g1
              have G2 := Lib.hid g2
              have GE := Lib.hid ge
              clear hb k2 g1 g2 ge
              go_wp2_with fail
              refine (HHU.out _ _ _ _ _ GE.out G1.out G2.out).mono ?_
              rintro e wI ⟨p1, f1, p2, f2, rfl, -, -, hb⟩
              replace K2 := Lib.hid (K2.out.to hb)
              replace K3 := Lib.hid (K3.out.to hb)
              replace HB := Lib.hid (bThen HB.out hb)
              clear hb G1 G2 GE HHU
              go_upto_region 22 with (fail)
              obtain ⟨wJ, hw⟩ : ∃ W, wI.alloc (.cells (hvV p1 0 f1 p2 0 f2 0) 76) = W := ⟨_, rfl⟩
              rw [hw]
              have hb : Below wI.heap.size wI wJ := by subst hw; exact bAlloc (bSelf _) _
              have K15 : Hid (Blk wJ wI.heap.size (hvV p1 0 f1 p2 0 f2 0)) := by subst hw; exact Lib.hid (Blk.new _ _ _)
              replace K2 := Lib.hid (K2.out.to hb)
              replace K3 := Lib.hid (K3.out.to hb)
              replace HB := Lib.hid (bThen HB.out hb)
              clear hb hw
              obtain ⟨B15, hB⟩ : ∃ B, wI.heap.size = B := ⟨_, rfl⟩
              rw [hB] at K15 ⊢
              clear hB
              go_wp2_with fail
              go_ret
              exact ⟨rfl, HB.out⟩
          | some l =>
            have e1 : mvR ks fs = (l, 0) := by unfold mvR; rw [hchk, hmo]; rfl
            have e2 : hvR ks fs nd = ((l.take (nd + 1), l.drop (nd + 1), (fs.drop (nd + 1)).sum), 0) := by unfold hvR; rw [hnd0, hmo, if_neg (fun h : (0 : Int) ≠ 0 => h rfl), Int.toNat_natCast]
            rw [e1] at HMU
            rw [e2] at HHU
            dsimp only at HMU HHU
            clear e1 e2
            have hmvd := mvd_of hok hmo
            have HMVD := Lib.hid hmvd
            have hll : l.length = n := by rw [hmvd.len]; exact HKN.out
            have HLL := Lib.hid hll
            have hT1 : (l.take (nd + 1)).length = nd + 1 := by rw [List.length_take]; omega
            obtain ⟨m, hm⟩ : ∃ m, n - (nd + 1) = m := ⟨_, rfl⟩
            have hT2 : (l.drop (nd + 1)).length = m := by rw [List.length_drop, hll, hm]
            have hlu := List.take_append_drop (nd + 1) l
            have htr := true_ok hmvd hnd0 (by rw [HKN.out]; exact hndn)
            have hwr := fun (ls us : Fl) (a : Nat) (s : Int) h1 h2 h3 h4 h5 h6 => wrong_no (ls := ls) (us := us) (a := a) (s := s) hmvd hnd0 h1 h2 h3 h4 h5 h6
            have HWR := Lib.hid hwr
            have HM : Hid (nd + 1 + m = n) := Lib.hid (by omega)
            have HUL := Lib.hid (fun (v : Fl) (j : Nat) hv hj => upper_law (v := v) (j := j) hmvd (nd := nd) hv hj)
            have HDB := Lib.hid (fun (f2 : List Int) (v : Fl) h1 h2 h3 h4 => dbl_law (f2 := f2) (w := v) hmvd h1 h2 h3 h4)
            have HLS := Lib.hid (fun j (hj : j < n) => (show lowB (fg l j).1 (fg l j).2 = true ∧ SmF (fg l j) from ⟨hmvd.low (by rw [HKN.out]; exact hj), hmvd.sm j (by rw [hll]; exact hj)⟩))
            obtain ⟨F, hF⟩ : ∃ F, (fs.drop (nd + 1)).sum = F := ⟨_, rfl⟩
            obtain ⟨ls, hls⟩ : ∃ z, l.take (nd + 1) = z := ⟨_, rfl⟩
            obtain ⟨us, hus⟩ : ∃ z, l.drop (nd + 1) = z := ⟨_, rfl⟩
            rw [hF] at HHU htr HWR
            rw [hls] at HHU hlu hT1 htr
            rw [hus] at HHU hlu hT2 htr
            rw [hT1, hT2] at HHU
            rw [hll] at HMU
            have HLU := Lib.hid hlu
            have HLN1 := Lib.hid hT1
            have HLN2 := Lib.hid hT2
            have HLSD := Lib.hid hls
            have HUSD := Lib.hid hus
            have HFS := Lib.hid hF
            clear hmvd hll hT1 hT2 hlu hm hwr hF hls hus
            obtain ⟨-, k2, -⟩ := K2.out
            go_wp2_with fail
            refine (HCC.out _ HB.out).mono ?_
            rintro e x19 ⟨y1, e1, y2, e2, rfl, -, ge, g1, g2, hb, -, -⟩
            replace K2 := Lib.hid (K2.out.to hb)
            replace K3 := Lib.hid (K3.out.to hb)
            replace HB := Lib.hid (bThen HB.out hb)
            have G1 := Lib.hid g1
            have G2 := Lib.hid g2
            have GE := Lib.hid ge
            clear hb k2 g1 g2 ge
            go_wp2_with fail
            refine (HMU.out _ _ _ _ _ GE.out G1.out G2.out).mono ?_
            rintro e wH ⟨am, cm, rfl, hrm, hb⟩
            replace K2 := Lib.hid (K2.out.to hb)
            replace K3 := Lib.hid (K3.out.to hb)
            replace HB := Lib.hid (bThen HB.out hb)
            have HRM := Lib.hid hrm
            clear hrm
            clear hb G1 G2 GE HMU
            obtain ⟨-, k2, -⟩ := K2.out
            obtain ⟨-, k3, -⟩ := K3.out
            go_wp2_with fail
            refine (HMD.out _).mono ?_
            rintro e w' ⟨rfl, rfl⟩
            clear k3 HMD
            go_wp2_with fail
            refine (HCC.out _ HB.out).mono ?_
            rintro e x21 ⟨y1, e1, y2, e2, rfl, -, ge, g1, g2, hb, -, -⟩
            replace K2 := Lib.hid (K2.out.to hb)
            replace K3 := Lib.hid (K3.out.to hb)
            replace HRM := Lib.hid (HRM.out.to hb)
            replace HB := Lib.hid (bThen HB.out hb)
            have G1 := Lib.hid g1
            have G2 := Lib.hid g2
            have GE := Lib.hid ge
            clear hb k2 g1 g2 ge
            go_wp2_with fail
            refine (HHU.out _ _ _ _ _ GE.out G1.out G2.out).mono ?_
            rintro e wI ⟨p1, f1, p2, f2, rfl, hrl, hru, hb⟩
            replace K2 := Lib.hid (K2.out.to hb)
            replace K3 := Lib.hid (K3.out.to hb)
            replace HRM := Lib.hid (HRM.out.to hb)
            replace HB := Lib.hid (bThen HB.out hb)
            have HRL := Lib.hid hrl
            have HRU := Lib.hid hru
            clear hrl hru
            clear hb G1 G2 GE HHU
            go_upto_region 22 with (fail)
            obtain ⟨wJ, hw⟩ : ∃ W, wI.alloc (.cells (hvV p1 (nd + 1) f1 p2 m f2 F) 76) = W := ⟨_, rfl⟩
            rw [hw]
            have hb : Below wI.heap.size wI wJ := by subst hw; exact bAlloc (bSelf _) _
            have K15 : Hid (Blk wJ wI.heap.size (hvV p1 (nd + 1) f1 p2 m f2 F)) := by subst hw; exact Lib.hid (Blk.new _ _ _)
            replace K2 := Lib.hid (K2.out.to hb)
            replace K3 := Lib.hid (K3.out.to hb)
            replace HRM := Lib.hid (HRM.out.to hb)
            replace HRL := Lib.hid (HRL.out.to hb)
            replace HRU := Lib.hid (HRU.out.to hb)
            replace HB := Lib.hid (bThen HB.out hb)
            clear hb hw
            obtain ⟨B15, hB⟩ : ∃ B, wI.heap.size = B := ⟨_, rfl⟩
            rw [hB] at K15 ⊢
            clear hB
            go_upto_region 26 with (fail)
            have HCF := Lib.hid (fun W (hb : Below wJ.heap.size wJ W) => CopyFracs_own ls p1 f1 W (by have := HLN1.out; omega) (by rw [HLN1.out]; exact HRL.out.to hb))
            unfold FOwn at HCF
            rw [HLN1.out] at HCF
            have hcl2 := Lib.hid (show (fcells us).length = m * 2 by rw [fcells_len, HLN2.out])
            have HFA := Lib.hid (fcells_app ls us)
            have HAL := Lib.hid (fun W (hb : Below wJ.heap.size wJ W) => areLowest_yes l am cm W (by rw [HLL.out]; omega) (fun k hk => HLS.out k (by rw [HLL.out] at hk; exact hk)) (by rw [HLL.out]; exact HRM.out.to hb))
            rw [HLL.out] at HAL
            have HFR := Lib.hid (fun W y e (h1 : Reads W y (l.length * 2) (fracs l)) (hb : Below wJ.heap.size wJ W) => Fracs_any l l y am e cm W (by rw [HLL.out]; unfold maxLen; omega) h1 (by rw [HLL.out]; exact HRM.out.to hb))
            rw [HLL.out, show decide (l = l) = true from decide_eq_true rfl] at HFR
            clear hlt hltI hk
            go_cut [182] from 121 to 182 (fun s wc => s = .bool false ∧ Hid (Below wJ.heap.size wJ wc))
            case first =>
              as_aux_lemma =>
                refine wp_region_tree (by kernel_rfl) (fun wd hwd => ?_)
                have T := Lib.hid hwd
                clear hwd
                refine WT_yes 0 rfl (by kernel_rfl) (fun _ _ _ _ _ h => h) (by rfl) ?_; apply Exists.intro; refine ⟨fun w1 hb1 => ?_, ?_⟩; (focus ((skip; have hb1 := Lib.hid hb1; go_simp); (try (go_bits; try go_simp)); (try (rw [if_pos (by omega)]; try go_simp)); (first | done | (fail) | (with_reducible rfl) | exact rfl)))
                simp only [Act.put, List.setIfInBounds_toArray, List.set_cons_zero, List.set_cons_succ]
                refine WT_yes 1 rfl (by kernel_rfl) (fun _ _ _ _ _ h => h) (by rfl) ?_; apply Exists.intro; refine ⟨fun w1 hb1 => ?_, ?_⟩; (focus ((skip; have hb1 := Lib.hid hb1; go_simp); (try (go_bits; try go_simp)); (try (rw [if_pos (by omega)]; try go_simp)); (first | done | (fail) | (with_reducible rfl) | exact rfl)))
                simp only [Act.put, List.setIfInBounds_toArray, List.set_cons_zero, List.set_cons_succ]
                refine WT_yes 2 rfl (by kernel_rfl) (fun _ _ _ _ _ h => h) (by rfl) ?_; apply Exists.intro; refine ⟨fun w1 hb1 => ?_, ?_⟩; (focus ((skip; have hb1 := Lib.hid hb1; go_simp); (try (go_bits; try go_simp)); (try (rw [if_pos (by omega)]; try go_simp)); (first | done | (fail) | (with_reducible rfl) | exact rfl)))
                simp only [Act.put, List.setIfInBounds_toArray, List.set_cons_zero, List.set_cons_succ]
                refine WT_yes 3 rfl (by kernel_rfl) (fun _ _ _ _ _ h => h) (by rfl) ?_; apply Exists.intro; refine ⟨fun w1 hb1 => ?_, ?_⟩; (focus (((obtain ⟨-, k2, -⟩ := K2.out.to (T.out.trans hb1)); have hb1 := Lib.hid hb1; go_simp); (try (go_bits; try go_simp)); (try (rw [if_pos (by omega)]; try go_simp)); (first | done | (fail) | (with_reducible rfl) | exact rfl)))
                simp only [Act.put, List.setIfInBounds_toArray, List.set_cons_zero, List.set_cons_succ]
                refine WT_yes 4 rfl (by kernel_rfl) (fun _ _ _ _ _ h => h) (by rfl) ?_; apply Exists.intro; refine ⟨fun w1 hb1 => ?_, ?_⟩; (focus ((skip; have hb1 := Lib.hid hb1; go_simp); (try (go_bits; try go_simp)); (try (rw [if_pos (by omega)]; try go_simp)); (first | done | (fail) | (with_reducible rfl) | exact rfl)))
                simp only [Act.put, List.setIfInBounds_toArray, List.set_cons_zero, List.set_cons_succ]
                refine WT_yes 5 rfl (by kernel_rfl) (fun _ _ _ _ _ h => h) (by rfl) ?_; apply Exists.intro; refine ⟨fun w1 hb1 => ?_, ?_⟩; (focus ((skip; have hb1 := Lib.hid hb1; go_simp); (try (go_bits; try go_simp)); (try (rw [if_pos (by omega)]; try go_simp)); (first | done | (fail) | (with_reducible rfl) | exact rfl)))
                simp only [Act.put, List.setIfInBounds_toArray, List.set_cons_zero, List.set_cons_succ]
                refine WT_yes 6 rfl (by kernel_rfl) (fun _ _ _ _ _ h => h) (by rfl) ?_; apply Exists.intro; refine ⟨fun w1 hb1 => ?_, ?_⟩; (focus ((skip; have hb1 := Lib.hid hb1; go_simp); (try (go_bits; try go_simp)); (try (rw [if_pos (by omega)]; try go_simp)); (first | done | (fail) | (with_reducible rfl) | exact rfl)))
                simp only [Act.put, List.setIfInBounds_toArray, List.set_cons_zero, List.set_cons_succ]
                refine WT_yes 7 rfl (by kernel_rfl) (fun _ _ _ _ _ h => h) (by rfl) ?_; apply Exists.intro; refine ⟨fun w1 hb1 => ?_, ?_⟩; (focus ((skip; have hb1 := Lib.hid hb1; go_simp); (try (go_bits; try go_simp)); (try (rw [if_pos (by omega)]; try go_simp)); (first | done | (fail) | (with_reducible rfl) | exact rfl)))
                simp only [Act.put, List.setIfInBounds_toArray, List.set_cons_zero, List.set_cons_succ]
                refine WT_one 8 rfl (by kernel_rfl) ?_
                unfold stepT
                go_wp2_with fail
                refine (HAL.out _ T.out).mono ?_
                rintro e w4' ⟨rfl, hb⟩
                have hbd := Lib.hid (hb.mono T.out.size)
                replace T := Lib.hid (T.out.trans hbd.out)
                clear hb
                go_wp2_with fail
                refine ⟨hbd.out, ?_⟩
                clear hbd
                refine WT_yes 9 rfl (by kernel_rfl) (fun _ _ _ _ _ h => h) (by rfl) ?_; apply Exists.intro; refine ⟨fun w1 hb1 => ?_, ?_⟩; (focus ((skip; have hb1 := Lib.hid hb1; go_simp); (try (go_bits; try go_simp)); (try (rw [if_pos (by omega)]; try go_simp)); (first | done | (fail) | (with_reducible rfl) | exact rfl)))
                simp only [Act.put, List.setIfInBounds_toArray, List.set_cons_zero, List.set_cons_succ]
                refine WT_yes 10 rfl (by kernel_rfl) (fun _ _ _ _ _ h => h) (by rfl) ?_; apply Exists.intro; refine ⟨fun w1 hb1 => ?_, ?_⟩; (focus ((skip; have hb1 := Lib.hid hb1; go_simp); (try (go_bits; try go_simp)); (try (rw [if_pos (by omega)]; try go_simp)); (first | done | (fail) | (with_reducible rfl) | exact rfl)))
                simp only [Act.put, List.setIfInBounds_toArray, List.set_cons_zero, List.set_cons_succ]
                refine WT_yes 11 rfl (by kernel_rfl) (fun _ _ _ _ _ h => h) (by rfl) ?_; apply Exists.intro; refine ⟨fun w1 hb1 => ?_, ?_⟩; (focus ((skip; have hb1 := Lib.hid hb1; go_simp); (try (go_bits; try go_simp)); (try (rw [if_pos (by omega)]; try go_simp)); (first | done | (fail) | (with_reducible rfl) | exact rfl)))
                simp only [Act.put, List.setIfInBounds_toArray, List.set_cons_zero, List.set_cons_succ]
                refine WT_yes 12 rfl (by kernel_rfl) (fun _ _ _ _ _ h => h) (by rfl) ?_; apply Exists.intro; refine ⟨fun w1 hb1 => ?_, ?_⟩; (focus ((skip; have hb1 := Lib.hid hb1; go_simp); (try (go_bits; try go_simp)); (try (rw [if_pos (by omega)]; try go_simp)); (first | done | (fail) | (with_reducible rfl) | exact rfl)))
                simp only [Act.put, List.setIfInBounds_toArray, List.set_cons_zero, List.set_cons_succ]
                refine WT_yes 13 rfl (by kernel_rfl) (fun _ _ _ _ _ h => h) (by rfl) ?_; apply Exists.intro; refine ⟨fun w1 hb1 => ?_, ?_⟩; (focus (((obtain ⟨-, k15, -⟩ := K15.out.to (T.out.trans hb1)); have hb1 := Lib.hid hb1; go_simp); (try (go_bits; try go_simp)); (try (rw [if_pos (by omega)]; try go_simp)); (first | done | (fail) | (with_reducible rfl) | exact rfl)))
                simp only [Act.put, List.setIfInBounds_toArray, List.set_cons_zero, List.set_cons_succ]
                refine WT_yes 15 rfl (by kernel_rfl) (fun _ _ _ _ _ h => h) (by rfl) ?_; apply Exists.intro; refine ⟨fun w1 hb1 => ?_, ?_⟩; (focus ((skip; have hb1 := Lib.hid hb1; go_simp); (try (go_bits; try go_simp)); (try (rw [if_pos (by omega)]; try go_simp)); (first | done | (fail) | (with_reducible rfl) | exact rfl)))
                simp only [Act.put, List.setIfInBounds_toArray, List.set_cons_zero, List.set_cons_succ]
                refine WT_yes 16 rfl (by kernel_rfl) (fun _ _ _ _ _ h => h) (by rfl) ?_; apply Exists.intro; refine ⟨fun w1 hb1 => ?_, ?_⟩; (focus (((obtain ⟨-, k15, -⟩ := K15.out.to (T.out.trans hb1)); have hb1 := Lib.hid hb1; go_simp); (try (go_bits; try go_simp)); (try (rw [if_pos (by omega)]; try go_simp)); (first | done | (fail) | (with_reducible rfl) | exact rfl)))
                simp only [Act.put, List.setIfInBounds_toArray, List.set_cons_zero, List.set_cons_succ]
                refine WT_yes 18 rfl (by kernel_rfl) (fun _ _ _ _ _ h => h) (by rfl) ?_; apply Exists.intro; refine ⟨fun w1 hb1 => ?_, ?_⟩; (focus ((skip; have hb1 := Lib.hid hb1; go_simp); (try (go_bits; try go_simp)); (try (rw [if_pos (by omega)]; try go_simp)); (first | done | (fail) | (with_reducible rfl) | exact rfl)))
                simp only [Act.put, List.setIfInBounds_toArray, List.set_cons_zero, List.set_cons_succ]
                refine WT_one 14 rfl (by kernel_rfl) ?_
                unfold stepT
                go_wp2_with fail
                refine (HCF.out _ T.out).mono ?_
                rintro e w4 ⟨v4, rfl, hown, hb⟩
                have HOWN := Lib.hid hown
                have hlo := Lib.hid hown.lt
                obtain ⟨wd2, hwd2⟩ : ∃ z, z = w4' := ⟨_, rfl⟩
                subst hwd2
                have hbd := Lib.hid (hb.mono T.out.size)
                have hsd : wJ.heap.size ≤ wd2.heap.size := T.out.size
                have hsd4 : wd2.heap.size ≤ w4.heap.size := hb.size
                replace T := Lib.hid (T.out.trans hbd.out)
                clear hb hown
                go_wp2_with fail
                refine ⟨hbd.out, ?_⟩
                clear hbd
                refine WT_one 17 rfl (by kernel_rfl) ?_
                unfold stepT
                cases p2 with
                | none =>
                  have hz : m = 0 := by
                    rcases HRU.out with h | ⟨b, off, e, -⟩
                    · omega
                    · cases e
                  subst hz
                  have HL0 : Hid (us = []) := Lib.hid (List.length_eq_zero_iff.1 HLN2.out)
                  obtain ⟨g, cap, cur, hv, -, -, hcap, -⟩ : ∃ g cap cur, _ = Value.slice (some ⟨g, 0, none⟩) (nd + 1) cap ∧ wd2.heap.size ≤ g ∧ w4.heap[g]? = some (.cells cur 86 (0, 0)) ∧ nd + 1 ≤ cap ∧ True := by
                    rcases HOWN.out.2 with ⟨-, h⟩ | ⟨g, cap, cur, h, h', h'', h3, -⟩
                    · omega
                    · exact ⟨g, cap, cur, h, h', h'', h3, trivial⟩
                  subst hv
                  go_wp2_with fail
                  refine ⟨Below.refl _ _, ?_⟩
                  have hrow := HOWN.out
                  obtain ⟨a', cap', hv, -, hrd, -⟩ := Reads.of_row (f := fracs ls) hrow (fun i hi => fcells_get ls i (by rw [HLN1.out]; exact hi))
                  cases hv
                  have hlsl : ls = l := by rw [← HLU.out, HL0.out, List.append_nil]
                  have hnn : nd + 1 = n := HM.out
                  rw [hlsl, hnn] at hrd
                  have HRD := Lib.hid hrd
                  clear hrow hrd hcap hlsl
                  rw [hnn]
                  clear hnn
                  refine WT_one 19 rfl (by kernel_rfl) ?_
                  unfold stepT
                  go_wp2_with fail
                  refine (HFR.out _ _ _ HRD.out T.out).mono ?_
                  rintro e w9 ⟨rfl, hb⟩
                  have hbd := Lib.hid (hb.mono T.out.size)
                  replace T := Lib.hid (T.out.trans hbd.out)
                  clear hb
                  go_wp2_with fail
                  refine ⟨hbd.out, ?_⟩
                  clear hbd
                  refine WT_yes 20 rfl (by kernel_rfl) (fun _ _ _ _ _ h => h) (by rfl) ?_; apply Exists.intro; refine ⟨fun w1 hb1 => ?_, ?_⟩; (focus ((skip; have hb1 := Lib.hid hb1; go_simp); (try (go_bits; try go_simp)); (try (rw [if_pos (by omega)]; try go_simp)); (first | done | (fail) | (with_reducible rfl) | exact rfl)))
                  simp only [Act.put, List.setIfInBounds_toArray, List.set_cons_zero, List.set_cons_succ]
                  refine WT_yes 21 rfl (by kernel_rfl) (fun _ _ _ _ _ h => h) (by rfl) ?_; apply Exists.intro; refine ⟨fun w1 hb1 => ?_, ?_⟩; (focus ((skip; have hb1 := Lib.hid hb1; go_simp); (try (go_bits; try go_simp)); (try (rw [if_pos (by omega)]; try go_simp)); (first | done | (fail) | (with_reducible rfl) | exact rfl)))
                  simp only [Act.put, List.setIfInBounds_toArray, List.set_cons_zero, List.set_cons_succ]
                  refine WT_yes 22 rfl (by kernel_rfl) (fun _ _ _ _ _ h => h) (by rfl) ?_; apply Exists.intro; refine ⟨fun w1 hb1 => ?_, ?_⟩; (focus ((skip; have hb1 := Lib.hid hb1; go_simp); (try (go_bits; try go_simp)); (try (rw [if_pos (by omega)]; try go_simp)); (first | done | (fail) | (with_reducible rfl) | exact rfl)))
                  simp only [Act.put, List.setIfInBounds_toArray, List.set_cons_zero, List.set_cons_succ]
                  refine WT_yes 23 rfl (by kernel_rfl) (fun _ _ _ _ _ h => h) (by rfl) ?_; apply Exists.intro; refine ⟨fun w1 hb1 => ?_, ?_⟩; (focus ((skip; have hb1 := Lib.hid hb1; go_simp); (try (go_bits; try go_simp)); (try (rw [if_pos (by omega)]; try go_simp)); (first | done | (fail) | (with_reducible rfl) | exact rfl)))
                  simp only [Act.put, List.setIfInBounds_toArray, List.set_cons_zero, List.set_cons_succ]
                  refine WT_yes 24 rfl (by kernel_rfl) (fun _ _ _ _ _ h => h) (by rfl) ?_; apply Exists.intro; refine ⟨fun w1 hb1 => ?_, ?_⟩; (focus (((obtain ⟨-, k15, -⟩ := K15.out.to (T.out.trans hb1)); have hb1 := Lib.hid hb1; go_simp); (try (go_bits; try go_simp)); (try (rw [if_pos (by omega)]; try go_simp)); (first | done | (fail) | (with_reducible rfl) | exact rfl)))
                  simp only [Act.put, List.setIfInBounds_toArray, List.set_cons_zero, List.set_cons_succ]
                  refine WT_yes 25 rfl (by kernel_rfl) (fun _ _ _ _ _ h => h) (by rfl) ?_; apply Exists.intro; refine ⟨fun w1 hb1 => ?_, ?_⟩; (focus ((skip; have hb1 := Lib.hid hb1; go_simp); (try (go_bits; try go_simp)); (try (rw [if_pos (by omega)]; try go_simp)); (first | done | (fail) | (with_reducible rfl) | exact rfl)))
                  simp only [Act.put, List.setIfInBounds_toArray, List.set_cons_zero, List.set_cons_succ]
                  refine WT_yes 26 rfl (by kernel_rfl) (fun _ _ _ _ _ h => h) (by rfl) ?_; apply Exists.intro; refine ⟨fun w1 hb1 => ?_, ?_⟩; (focus ((skip; have hb1 := Lib.hid hb1; go_simp); (try (go_bits; try go_simp)); (try (rw [if_pos (by omega)]; try go_simp)); (first | done | (fail) | (with_reducible rfl) | exact rfl)))
                  simp only [Act.put, List.setIfInBounds_toArray, List.set_cons_zero, List.set_cons_succ]
                  refine WT_yes 27 rfl (by kernel_rfl) (fun _ _ _ _ _ h => h) (by rfl) ?_; apply Exists.intro; refine ⟨fun w1 hb1 => ?_, ?_⟩; (focus ((skip; have hb1 := Lib.hid hb1; go_simp); (try (go_bits; try go_simp)); (try (rw [if_pos (by omega)]; try go_simp)); (first | done | (fail) | (with_reducible rfl) | exact rfl)))
                  simp only [Act.put, List.setIfInBounds_toArray, List.set_cons_zero, List.set_cons_succ]
                  refine WT_yes 28 rfl (by kernel_rfl) (fun _ _ _ _ _ h => h) (by rfl) ?_; apply Exists.intro; refine ⟨fun w1 hb1 => ?_, ?_⟩; (focus ((skip; have hb1 := Lib.hid hb1; go_simp); (try (go_bits; try go_simp)); (try (rw [if_pos (by omega)]; try go_simp)); (first | done | (fail) | (with_reducible rfl) | exact rfl)))
                  simp only [Act.put, List.setIfInBounds_toArray, List.set_cons_zero, List.set_cons_succ]
                  refine WT_yes 29 rfl (by kernel_rfl) (fun _ _ _ _ _ h => h) (by rfl) ?_; apply Exists.intro; refine ⟨fun w1 hb1 => ?_, ?_⟩; (focus ((skip; have hb1 := Lib.hid hb1; go_simp); (try (go_bits; try go_simp)); (try (rw [if_pos (by omega)]; try go_simp)); (first | done | (fail) | (with_reducible rfl) | exact rfl)))
                  simp only [Act.put, List.setIfInBounds_toArray, List.set_cons_zero, List.set_cons_succ]
                  refine WT_done (by kernel_rfl) ?_
                  go_wp2_with fail
                  go_meet
                  case rel => exact ⟨rfl, T⟩
                | some ad =>
                  have HNW := Lib.hid (Reads.newsF (ad := ad) (ms := us) (by rw [HLN2.out]; exact HRU.out.to T.out))
                  refine wpList_appG wd2.heap.size rtFrac (by rfl) (.tmp 167) (.tmp 169) rfl _ (nd + 1) (fcells ls) rfl HOWN.out ad m f2 (fcells us) rfl hcl2.out HNW.out (onesF _) (by have := HM.out; unfold maxLen; omega) (by have := HM.out; omega) (by omega) ?_
                  intro v' w8 hown' hgrow
                  have HO := Lib.hid hown'
                  have HG := Lib.hid hgrow
                  clear hown' hgrow
                  go_wp2_with fail
                  have HB8 : Hid (Below wJ.heap.size w4 w8) := Lib.hid ((Below.refl _ _).grown HG.out (by omega) (fun k e => by have := (hlo.out k e).1; omega))
                  refine ⟨HB8.out, ?_⟩
                  replace T := Lib.hid (T.out.trans HB8.out)
                  have hrow := HO.out
                  rw [← HFA.out, HLU.out, HM.out] at hrow
                  have HGET := fun i (hi : i < n * 2) => fcells_get l i (by rw [HLL.out]; exact hi)
                  obtain ⟨a', cap', hv, -, hrd, -⟩ := Reads.of_row (f := fracs l) hrow HGET
                  subst hv
                  have HRD := Lib.hid hrd
                  clear hrow hrd HGET
                  refine WT_one 19 rfl (by kernel_rfl) ?_
                  unfold stepT
                  go_wp2_with fail
                  refine (HFR.out _ _ _ HRD.out T.out).mono ?_
                  rintro e w9 ⟨rfl, hb⟩
                  have hbd := Lib.hid (hb.mono T.out.size)
                  replace T := Lib.hid (T.out.trans hbd.out)
                  clear hb
                  go_wp2_with fail
                  refine ⟨hbd.out, ?_⟩
                  clear hbd
                  refine WT_yes 20 rfl (by kernel_rfl) (fun _ _ _ _ _ h => h) (by rfl) ?_; apply Exists.intro; refine ⟨fun w1 hb1 => ?_, ?_⟩; (focus ((skip; have hb1 := Lib.hid hb1; go_simp); (try (go_bits; try go_simp)); (try (rw [if_pos (by omega)]; try go_simp)); (first | done | (fail) | (with_reducible rfl) | exact rfl)))
                  simp only [Act.put, List.setIfInBounds_toArray, List.set_cons_zero, List.set_cons_succ]
                  refine WT_yes 21 rfl (by kernel_rfl) (fun _ _ _ _ _ h => h) (by rfl) ?_; apply Exists.intro; refine ⟨fun w1 hb1 => ?_, ?_⟩; (focus ((skip; have hb1 := Lib.hid hb1; go_simp); (try (go_bits; try go_simp)); (try (rw [if_pos (by omega)]; try go_simp)); (first | done | (fail) | (with_reducible rfl) | exact rfl)))
                  simp only [Act.put, List.setIfInBounds_toArray, List.set_cons_zero, List.set_cons_succ]
                  refine WT_yes 22 rfl (by kernel_rfl) (fun _ _ _ _ _ h => h) (by rfl) ?_; apply Exists.intro; refine ⟨fun w1 hb1 => ?_, ?_⟩; (focus ((skip; have hb1 := Lib.hid hb1; go_simp); (try (go_bits; try go_simp)); (try (rw [if_pos (by omega)]; try go_simp)); (first | done | (fail) | (with_reducible rfl) | exact rfl)))
                  simp only [Act.put, List.setIfInBounds_toArray, List.set_cons_zero, List.set_cons_succ]
                  refine WT_yes 23 rfl (by kernel_rfl) (fun _ _ _ _ _ h => h) (by rfl) ?_; apply Exists.intro; refine ⟨fun w1 hb1 => ?_, ?_⟩; (focus ((skip; have hb1 := Lib.hid hb1; go_simp); (try (go_bits; try go_simp)); (try (rw [if_pos (by omega)]; try go_simp)); (first | done | (fail) | (with_reducible rfl) | exact rfl)))
                  simp only [Act.put, List.setIfInBounds_toArray, List.set_cons_zero, List.set_cons_succ]
                  refine WT_yes 24 rfl (by kernel_rfl) (fun _ _ _ _ _ h => h) (by rfl) ?_; apply Exists.intro; refine ⟨fun w1 hb1 => ?_, ?_⟩; (focus (((obtain ⟨-, k15, -⟩ := K15.out.to (T.out.trans hb1)); have hb1 := Lib.hid hb1; go_simp); (try (go_bits; try go_simp)); (try (rw [if_pos (by omega)]; try go_simp)); (first | done | (fail) | (with_reducible rfl) | exact rfl)))
                  simp only [Act.put, List.setIfInBounds_toArray, List.set_cons_zero, List.set_cons_succ]
                  refine WT_yes 25 rfl (by kernel_rfl) (fun _ _ _ _ _ h => h) (by rfl) ?_; apply Exists.intro; refine ⟨fun w1 hb1 => ?_, ?_⟩; (focus ((skip; have hb1 := Lib.hid hb1; go_simp); (try (go_bits; try go_simp)); (try (rw [if_pos (by omega)]; try go_simp)); (first | done | (fail) | (with_reducible rfl) | exact rfl)))
                  simp only [Act.put, List.setIfInBounds_toArray, List.set_cons_zero, List.set_cons_succ]
                  refine WT_yes 26 rfl (by kernel_rfl) (fun _ _ _ _ _ h => h) (by rfl) ?_; apply Exists.intro; refine ⟨fun w1 hb1 => ?_, ?_⟩; (focus ((skip; have hb1 := Lib.hid hb1; go_simp); (try (go_bits; try go_simp)); (try (rw [if_pos (by omega)]; try go_simp)); (first | done | (fail) | (with_reducible rfl) | exact rfl)))
                  simp only [Act.put, List.setIfInBounds_toArray, List.set_cons_zero, List.set_cons_succ]
                  refine WT_yes 27 rfl (by kernel_rfl) (fun _ _ _ _ _ h => h) (by rfl) ?_; apply Exists.intro; refine ⟨fun w1 hb1 => ?_, ?_⟩; (focus ((skip; have hb1 := Lib.hid hb1; go_simp); (try (go_bits; try go_simp)); (try (rw [if_pos (by omega)]; try go_simp)); (first | done | (fail) | (with_reducible rfl) | exact rfl)))
                  simp only [Act.put, List.setIfInBounds_toArray, List.set_cons_zero, List.set_cons_succ]
                  refine WT_yes 28 rfl (by kernel_rfl) (fun _ _ _ _ _ h => h) (by rfl) ?_; apply Exists.intro; refine ⟨fun w1 hb1 => ?_, ?_⟩; (focus ((skip; have hb1 := Lib.hid hb1; go_simp); (try (go_bits; try go_simp)); (try (rw [if_pos (by omega)]; try go_simp)); (first | done | (fail) | (with_reducible rfl) | exact rfl)))
                  simp only [Act.put, List.setIfInBounds_toArray, List.set_cons_zero, List.set_cons_succ]
                  refine WT_yes 29 rfl (by kernel_rfl) (fun _ _ _ _ _ h => h) (by rfl) ?_; apply Exists.intro; refine ⟨fun w1 hb1 => ?_, ?_⟩; (focus ((skip; have hb1 := Lib.hid hb1; go_simp); (try (go_bits; try go_simp)); (try (rw [if_pos (by omega)]; try go_simp)); (first | done | (fail) | (with_reducible rfl) | exact rfl)))
                  simp only [Act.put, List.setIfInBounds_toArray, List.set_cons_zero, List.set_cons_succ]
                  refine WT_done (by kernel_rfl) ?_
                  go_wp2_with fail
                  go_meet
                  case rel => exact ⟨rfl, T⟩
            case rest =>
              as_aux_lemma =>
                obtain ⟨rfl, HC3⟩ := hcut
                obtain ⟨wK, hwK⟩ : ∃ wo, wo = wc := ⟨_, rfl⟩
                subst hwK
                have hb := HC3.out
                replace K2 := Lib.hid (K2.out.to hb)
                replace K3 := Lib.hid (K3.out.to hb)
                replace HRM := Lib.hid (HRM.out.to hb)
                replace HRL := Lib.hid (HRL.out.to hb)
                replace HRU := Lib.hid (HRU.out.to hb)
                replace K15 := Lib.hid (K15.out.to hb)
                replace HB := Lib.hid (bThen HB.out hb)
                clear hb HC3 HCF hcl2 HFA HAL HFR
                have hsm : ∀ j, j < l.length → SmF (fg l j) := fun j hj => (HLS.out j (by rw [HLL.out] at hj; exact hj)).2
                have HSM := Lib.hid hsm
                have hi1 := fun k hk => i64_sm (sm_left HLU.out hsm k hk)
                have hi2 := fun k hk => i64_sm (sm_right HLU.out hsm k hk)
                have HKG := Lib.hid (fun (ls' us' : Fl) (l1 : ls'.length = nd + 1) (l2 : us'.length = m) i1 i2 W y1 y2 z1 z2 e1 e2 f1 f2 (ge : n ≤ e2) (g1 : Reads W y1 n (ints ks)) (g2 : Reads W y2 n (ints fs)) (g3 : Reads W z1 ((nd + 1) * 2) (fracs ls')) (g4 : Reads W z2 (m * 2) (fracs us')) =>
                  CheckHalves_any ks fs ls' us' F nd y1 y2 z1 z2 e1 e2 f1 f2 W (by rw [HKN.out]; omega) (by rw [HFN.out]; omega) (by omega) (by have := HM.out; omega) (by rw [HFN.out]; exact ge) (by omega) (by omega) i1 i2 (by rw [HKN.out]; exact g1) (by rw [HFN.out]; exact g2) (by rw [l1]; exact g3) (by rw [l2]; exact g4))
                have HKH := Lib.hid (HKG.out ls us HLN1.out HLN2.out hi1 hi2)
                rw [htr, HKN.out, HFN.out, HLN1.out, HLN2.out] at HKH
                dsimp only at HKH
                have HCH := Lib.hid (fun W (hb : Below wK.heap.size wK W) => CopyHalves_any ls us F p1 p2 f1 f2 W (by rw [HLN1.out]; omega) (by rw [HLN2.out]; have := HM.out; omega) (by rw [HLN1.out]; exact HRL.out.to hb) (by rw [HLN2.out]; exact HRU.out.to hb))
                unfold HPost at HCH
                rw [HLN1.out, HLN2.out] at HCH
                clear hsm hi1 hi2 htr
                go_upto_region 28 with (fail)
                refine wp_region_tree (by kernel_rfl) (fun wd hwd => ?_)
                have T := Lib.hid hwd
                clear hwd
                refine WT_yes 0 rfl (by kernel_rfl) (fun _ _ _ _ _ h => h) (by rfl) ?_; apply Exists.intro; refine ⟨fun w1 hb1 => ?_, ?_⟩; (focus (((obtain ⟨-, k2, -⟩ := K2.out.to (T.out.trans hb1)); have hb1 := Lib.hid hb1; go_simp); (try (go_bits; try go_simp)); (try (rw [if_pos (by omega)]; try go_simp)); (first | done | (fail) | (with_reducible rfl) | exact rfl)))
                simp only [Act.put, List.setIfInBounds_toArray, List.set_cons_zero, List.set_cons_succ]
                refine WT_yes 2 rfl (by kernel_rfl) (fun _ _ _ _ _ h => h) (by rfl) ?_; apply Exists.intro; refine ⟨fun w1 hb1 => ?_, ?_⟩; (focus ((skip; have hb1 := Lib.hid hb1; go_simp); (try (go_bits; try go_simp)); (try (rw [if_pos (by omega)]; try go_simp)); (first | done | (fail) | (with_reducible rfl) | exact rfl)))
                simp only [Act.put, List.setIfInBounds_toArray, List.set_cons_zero, List.set_cons_succ]
                refine WT_yes 3 rfl (by kernel_rfl) (fun _ _ _ _ _ h => h) (by rfl) ?_; apply Exists.intro; refine ⟨fun w1 hb1 => ?_, ?_⟩; (focus (((obtain ⟨-, k15, -⟩ := K15.out.to (T.out.trans hb1)); have hb1 := Lib.hid hb1; go_simp); (try (go_bits; try go_simp)); (try (rw [if_pos (by omega)]; try go_simp)); (first | done | (fail) | (with_reducible rfl) | exact rfl)))
                simp only [Act.put, List.setIfInBounds_toArray, List.set_cons_zero, List.set_cons_succ]
                refine WT_one 1 rfl (by kernel_rfl) ?_
                unfold stepT
                go_wp2_with fail
                refine (HCC.out _ (bThen HB.out T.out)).mono ?_
                rintro e x8 ⟨y1, e1, y2, e2, rfl, -, ge, g1, g2, hb, -, -⟩
                have G1 := Lib.hid g1
                have G2 := Lib.hid g2
                have GE := Lib.hid ge
                have hbd := Lib.hid (hb.mono T.out.size)
                replace T := Lib.hid (T.out.trans hbd.out)
                clear hb g1 g2 ge
                go_wp2_with fail
                refine ⟨hbd.out, ?_⟩
                clear hbd
                refine WT_one 4 rfl (by kernel_rfl) ?_
                unfold stepT
                go_wp2_with fail
                refine (HCH.out _ T.out).mono ?_
                rintro e x9 ⟨z1, e3, z2, e4, rfl, -, -, g3, g4, hb, -, -⟩
                have G3 := Lib.hid g3
                have G4 := Lib.hid g4
                replace G1 := Lib.hid (G1.out.to hb)
                replace G2 := Lib.hid (G2.out.to hb)
                have hbd := Lib.hid (hb.mono T.out.size)
                replace T := Lib.hid (T.out.trans hbd.out)
                clear hb g3 g4
                go_wp2_with fail
                refine ⟨hbd.out, ?_⟩
                clear hbd
                refine WT_one 5 rfl (by kernel_rfl) ?_
                unfold stepT
                go_wp2_with fail
                refine (HKH.out _ _ _ _ _ _ _ _ _ GE.out G1.out G2.out G3.out G4.out).mono ?_
                rintro e x10 ⟨rfl, hb⟩
                clear G1 G2 G3 G4 GE
                have hbd := Lib.hid (hb.mono T.out.size)
                replace T := Lib.hid (T.out.trans hbd.out)
                clear hb
                go_wp2_with fail
                refine ⟨hbd.out, ?_⟩
                clear hbd
                refine WT_yes 6 rfl (by kernel_rfl) (fun _ _ _ _ _ h => h) (by rfl) ?_; apply Exists.intro; refine ⟨fun w1 hb1 => ?_, ?_⟩; (focus ((skip; have hb1 := Lib.hid hb1; go_simp); (try (go_bits; try go_simp)); (try (rw [if_pos (by omega)]; try go_simp)); (first | done | (fail) | (with_reducible rfl) | exact rfl)))
                simp only [Act.put, List.setIfInBounds_toArray, List.set_cons_zero, List.set_cons_succ]
                refine WT_yes 7 rfl (by kernel_rfl) (fun _ _ _ _ _ h => h) (by rfl) ?_; apply Exists.intro; refine ⟨fun w1 hb1 => ?_, ?_⟩; (focus ((skip; have hb1 := Lib.hid hb1; go_simp); (try (go_bits; try go_simp)); (try (rw [if_pos (by omega)]; try go_simp)); (first | done | (fail) | (with_reducible rfl) | exact rfl)))
                simp only [Act.put, List.setIfInBounds_toArray, List.set_cons_zero, List.set_cons_succ]
                refine WT_yes 8 rfl (by kernel_rfl) (fun _ _ _ _ _ h => h) (by rfl) ?_; apply Exists.intro; refine ⟨fun w1 hb1 => ?_, ?_⟩; (focus ((skip; have hb1 := Lib.hid hb1; go_simp); (try (go_bits; try go_simp)); (try (rw [if_pos (by omega)]; try go_simp)); (first | done | (fail) | (with_reducible rfl) | exact rfl)))
                simp only [Act.put, List.setIfInBounds_toArray, List.set_cons_zero, List.set_cons_succ]
                refine WT_yes 9 rfl (by kernel_rfl) (fun _ _ _ _ _ h => h) (by rfl) ?_; apply Exists.intro; refine ⟨fun w1 hb1 => ?_, ?_⟩; (focus ((skip; have hb1 := Lib.hid hb1; go_simp); (try (go_bits; try go_simp)); (try (rw [if_pos (by omega)]; try go_simp)); (first | done | (fail) | (with_reducible rfl) | exact rfl)))
                simp only [Act.put, List.setIfInBounds_toArray, List.set_cons_zero, List.set_cons_succ]
                refine WT_yes 10 rfl (by kernel_rfl) (fun _ _ _ _ _ h => h) (by rfl) ?_; apply Exists.intro; refine ⟨fun w1 hb1 => ?_, ?_⟩; (focus ((skip; have hb1 := Lib.hid hb1; go_simp); (try (go_bits; try go_simp)); (try (rw [if_pos (by omega)]; try go_simp)); (first | done | (fail) | (with_reducible rfl) | exact rfl)))
                simp only [Act.put, List.setIfInBounds_toArray, List.set_cons_zero, List.set_cons_succ]
                refine WT_done (by kernel_rfl) ?_
                have hb := T.out
                replace K2 := Lib.hid (K2.out.to hb)
                replace K3 := Lib.hid (K3.out.to hb)
                replace HRM := Lib.hid (HRM.out.to hb)
                replace HRL := Lib.hid (HRL.out.to hb)
                replace HRU := Lib.hid (HRU.out.to hb)
                replace K15 := Lib.hid (K15.out.to hb)
                replace HB := Lib.hid (bThen HB.out hb)
                clear hb T HKH
                obtain ⟨wL, hwL⟩ : ∃ wo, wo = x10 := ⟨_, rfl⟩
                subst hwL
                have HCHO := Lib.hid (fun W (hb : Below wL.heap.size wL W) => CopyHalves_own ls us F p1 p2 f1 f2 W (by rw [HLN1.out]; omega) (by rw [HLN2.out]; have := HM.out; omega) (by rw [HLN1.out]; exact HRL.out.to hb) (by rw [HLN2.out]; exact HRU.out.to hb))
                unfold HOwn at HCHO
                rw [HLN1.out, HLN2.out] at HCHO
                have K2L := K2
                have K15L := K15
                have HRML := HRM
                have HRLL := HRL
                have HRUL := HRU
                have HBL := HB
                obtain ⟨-, k15, -⟩ := K15.out
                go_wp2_with fail
                refine (HCHO.out _ (bSelf wL)).mono ?_
                rintro e wM ⟨q1, r1, q2, r2, rfl, -, -, ho1, ⟨mid, hm1, hm2, ho2⟩, hb⟩
                obtain ⟨g1, cur1, rfl, hg1, hbk1, hc1⟩ := ho1.at (by omega)
                have hg1m : g1 < mid := hm2 _ rfl
                have GB1 := Lib.hid hbk1
                have GC1 := Lib.hid hc1
                have GO2 := Lib.hid ho2
                have GB : Hid (Below wL.heap.size wL wM) := Lib.hid hb
                replace K3 := Lib.hid (K3.out.to hb)
                clear hb k15 hbk1 hc1 ho1 ho2 hm2 HCH HCHO K15 K2 HRM HRL HRU HB
                go_upto_region 32 with (fail)
                obtain ⟨wN, hw⟩ : ∃ W, wM.alloc (.cells (hvV (some ⟨g1, 0, none⟩) (nd + 1) r1 q2 m r2 F) 76) = W := ⟨_, rfl⟩
                rw [hw]
                have hb : Below wM.heap.size wM wN := by subst hw; exact bAlloc (bSelf _) _
                have K19 : Hid (Blk wN wM.heap.size (hvV (some ⟨g1, 0, none⟩) (nd + 1) r1 q2 m r2 F)) := by subst hw; exact Lib.hid (Blk.new _ _ _)
                replace K3 := Lib.hid (K3.out.to hb)
                have hg1s : g1 < wM.heap.size := GB1.out.1
                have hq2s : ∀ p, q2 = some p → p.block < wM.heap.size := fun p hp => (GO2.out.1 p hp).2
                replace GB1 := Lib.hid (GB1.out.to hb)
                replace GO2 := Lib.hid (GO2.out.to hb)
                replace GB := Lib.hid (bThen GB.out hb)
                clear hb hw
                obtain ⟨B19, hB⟩ : ∃ B, wM.heap.size = B := ⟨_, rfl⟩
                rw [hB] at K19 hg1s hq2s ⊢
                have HQ2S := Lib.hid hq2s
                clear hB hq2s
                obtain ⟨-, k3, -⟩ := K3.out
                go_wp2_with fail
                refine (HMD1.out _).mono ?_
                rintro e w' ⟨rfl, rfl⟩
                clear k3 HMD1 K3
                go_upto_if 207 with (fail)
                go_cut [230] from 183 to 267 (fun _ wc => ∃ ls' us', Hid (WrongI ks fs F nd m ls' us') ∧ Hid (Reads wc (some ⟨g1, 0, none⟩) ((nd + 1) * 2) (fracs ls')) ∧ Hid (Reads wc q2 (m * 2) (fracs us')) ∧ Hid (Blk wc B19 (hvV (some ⟨g1, 0, none⟩) (nd + 1) r1 q2 m r2 F)) ∧ Hid (Below wL.heap.size wL wc))
                case first =>
                  as_aux_lemma =>
                    obtain ⟨on, od, ho⟩ : ∃ a b, fg l at' = (a, b) := ⟨_, _, rfl⟩
                    by_cases hat : at' ≤ nd
                    · have hatd : decide ((at' : Int) ≤ (nd : Int)) = true := decide_eq_true (by omega)
                      as_aux_lemma =>
                        have hatd2 : decide ((at' : Int) < (nd : Int) + 1) = true := decide_eq_true (by omega)
                        have hox : fg ls at' = (on, od) := by rw [← ho, ← HLU.out, fg_app1 (by rw [HLN1.out]; omega)]
                        have GBX := GB1
                        have GCX : Hid (∀ i, i < ls.length * 2 → cur1[i]? = some (fracs ls i)) := Lib.hid (by rw [HLN1.out]; exact GC1.out)
                        have hlx : ls.length = nd + 1 := HLN1.out
                        have KN : Hid (wN.cell? ⟨g1, at' * 2, none⟩ = some (.int .i64 on)) := Lib.hid (by rw [GBX.out.2.1, GCX.out _ (by omega), fracs0, hox])
                        have KD : Hid (wN.cell? ⟨g1, at' * 2 + 1, none⟩ = some (.int .i64 od)) := Lib.hid (by rw [GBX.out.2.1, GCX.out _ (by omega), fracs1, hox])
                        have hsmo := HSM.out at' (by rw [HLL.out]; omega)
                        have hlow := low_gcd (HLS.out at' (by omega)).1
                        rw [ho] at hsmo hlow
                        obtain ⟨o0, o1, d0, d1⟩ := hsmo
                        dsimp only at o0 o1 d0 d1 hlow
                        have HLW := Lib.hid (fun W => Lowest_any (on + od) od W (by omega) (by omega) (by omega))
                        rw [show fr (on + od) od = (on + od, od) by have := lowest_same (n := on) (d := od) 1 hlow; rwa [Int.one_mul] at this] at HLW
                        dsimp only at HLW
                        have HGL : Hid (g1 < wN.heap.size) := Lib.hid GBX.out.1
                        have HO := Lib.hid ho
                        clear ho hox hlow
                        go_upto_region 34 with (fail)
                        refine wp_region_treeT 23 (by kernel_rfl) (by kernel_rfl) (fun wd hwd => ?_)
                        have T := Lib.hid hwd
                        clear hwd
                        refine WE_yes 0 rfl (by kernel_rfl) (fun _ _ _ _ _ h => h) (by rfl) ?_; apply Exists.intro; refine ⟨fun w1 hb1 => ?_, ?_⟩; (focus ((skip; have hb1 := Lib.hid hb1; go_simp); (try (go_bits; try go_simp)); (try (rw [if_pos (by omega)]; try go_simp)); (first | done | (fail) | (with_reducible rfl) | exact rfl)))
                        simp only [Act.put, List.setIfInBounds_toArray, List.set_cons_zero, List.set_cons_succ]
                        refine WE_yes 1 rfl (by kernel_rfl) (fun _ _ _ _ _ h => h) (by rfl) ?_; apply Exists.intro; refine ⟨fun w1 hb1 => ?_, ?_⟩; (focus (((obtain ⟨-, k19, -⟩ := K19.out.to (T.out.trans hb1)); have hb1 := Lib.hid hb1; go_simp); (try (go_bits; try go_simp)); (try (rw [if_pos (by omega)]; try go_simp)); (first | done | (fail) | (with_reducible rfl) | exact rfl)))
                        simp only [Act.put, List.setIfInBounds_toArray, List.set_cons_zero, List.set_cons_succ]
                        refine WE_yes 2 rfl (by kernel_rfl) (fun _ _ _ _ _ h => h) (by rfl) ?_; apply Exists.intro; refine ⟨fun w1 hb1 => ?_, ?_⟩; (focus ((skip; have hb1 := Lib.hid hb1; go_simp); (try (go_bits; try go_simp)); (try (rw [if_pos (by omega)]; try go_simp)); (first | done | (fail) | (with_reducible rfl) | exact rfl)))
                        simp only [Act.put, List.setIfInBounds_toArray, List.set_cons_zero, List.set_cons_succ]
                        refine WE_yes 3 rfl (by kernel_rfl) (fun _ _ _ _ _ h => h) (by rfl) ?_; apply Exists.intro; refine ⟨fun w1 hb1 => ?_, ?_⟩; (focus ((skip; have hb1 := Lib.hid hb1; go_simp); (try (go_bits; try go_simp)); (try (rw [if_pos (by omega)]; try go_simp)); (first | done | (fail) | (with_reducible rfl) | exact rfl)))
                        simp only [Act.put, List.setIfInBounds_toArray, List.set_cons_zero, List.set_cons_succ]
                        refine WE_yes 4 rfl (by kernel_rfl) (fun _ _ _ _ _ h => h) (by rfl) ?_; apply Exists.intro; refine ⟨fun w1 hb1 => ?_, ?_⟩; (focus (((obtain ⟨-, k19, -⟩ := K19.out.to (T.out.trans hb1)); have hb1 := Lib.hid hb1; go_simp); (try (go_bits; try go_simp)); (try (rw [if_pos (by omega)]; try go_simp)); (first | done | (fail) | (with_reducible rfl) | exact rfl)))
                        simp only [Act.put, List.setIfInBounds_toArray, List.set_cons_zero, List.set_cons_succ]
                        refine WE_yes 5 rfl (by kernel_rfl) (fun _ _ _ _ _ h => h) (by rfl) ?_; apply Exists.intro; refine ⟨fun w1 hb1 => ?_, ?_⟩; (focus ((skip; have hb1 := Lib.hid hb1; go_simp); (try (go_bits; try go_simp)); (try (rw [if_pos (by omega)]; try go_simp)); (first | done | (fail) | (with_reducible rfl) | exact rfl)))
                        simp only [Act.put, List.setIfInBounds_toArray, List.set_cons_zero, List.set_cons_succ]
                        refine WE_yes 6 rfl (by kernel_rfl) (fun _ _ _ _ _ h => h) (by rfl) ?_; apply Exists.intro; refine ⟨fun w1 hb1 => ?_, ?_⟩; (focus ((skip; have hb1 := Lib.hid hb1; go_simp); (try (go_bits; try go_simp)); (try (rw [if_pos (by omega)]; try go_simp)); (first | done | (fail) | (with_reducible rfl) | exact rfl)))
                        simp only [Act.put, List.setIfInBounds_toArray, List.set_cons_zero, List.set_cons_succ]
                        refine WE_yes 7 rfl (by kernel_rfl) (fun _ _ _ _ _ h => h) (by rfl) ?_; apply Exists.intro; refine ⟨fun w1 hb1 => ?_, ?_⟩; (focus ((skip; have hb1 := Lib.hid hb1; go_simp); (try (go_bits; try go_simp)); (try (rw [if_pos (by omega)]; try go_simp)); (first | done | (fail) | (with_reducible rfl) | exact rfl)))
                        simp only [Act.put, List.setIfInBounds_toArray, List.set_cons_zero, List.set_cons_succ]
                        refine WE_yes 8 rfl (by kernel_rfl) (fun _ _ _ _ _ h => h) (by rfl) ?_; apply Exists.intro; refine ⟨fun w1 hb1 => ?_, ?_⟩; (focus (((have kn := ((T.out.trans hb1).cell (p := ⟨g1, at' * 2, none⟩) HGL.out).trans KN.out); have hb1 := Lib.hid hb1; go_simp); (try (go_bits; try go_simp)); (try (rw [if_pos (by omega)]; try go_simp)); (first | done | (fail) | (with_reducible rfl) | exact rfl)))
                        simp only [Act.put, List.setIfInBounds_toArray, List.set_cons_zero, List.set_cons_succ]
                        refine WE_yes 9 rfl (by kernel_rfl) (fun _ _ _ _ _ h => h) (by rfl) ?_; apply Exists.intro; refine ⟨fun w1 hb1 => ?_, ?_⟩; (focus ((skip; have hb1 := Lib.hid hb1; go_simp); (try (go_bits; try go_simp)); (try (rw [if_pos (by omega)]; try go_simp)); (first | done | (fail) | (with_reducible rfl) | exact rfl)))
                        simp only [Act.put, List.setIfInBounds_toArray, List.set_cons_zero, List.set_cons_succ]
                        refine WE_yes 10 rfl (by kernel_rfl) (fun _ _ _ _ _ h => h) (by rfl) ?_; apply Exists.intro; refine ⟨fun w1 hb1 => ?_, ?_⟩; (focus (((obtain ⟨-, k19, -⟩ := K19.out.to (T.out.trans hb1)); have hb1 := Lib.hid hb1; go_simp); (try (go_bits; try go_simp)); (try (rw [if_pos (by omega)]; try go_simp)); (first | done | (fail) | (with_reducible rfl) | exact rfl)))
                        simp only [Act.put, List.setIfInBounds_toArray, List.set_cons_zero, List.set_cons_succ]
                        refine WE_yes 11 rfl (by kernel_rfl) (fun _ _ _ _ _ h => h) (by rfl) ?_; apply Exists.intro; refine ⟨fun w1 hb1 => ?_, ?_⟩; (focus ((skip; have hb1 := Lib.hid hb1; go_simp); (try (go_bits; try go_simp)); (try (rw [if_pos (by omega)]; try go_simp)); (first | done | (fail) | (with_reducible rfl) | exact rfl)))
                        simp only [Act.put, List.setIfInBounds_toArray, List.set_cons_zero, List.set_cons_succ]
                        refine WE_yes 12 rfl (by kernel_rfl) (fun _ _ _ _ _ h => h) (by rfl) ?_; apply Exists.intro; refine ⟨fun w1 hb1 => ?_, ?_⟩; (focus ((skip; have hb1 := Lib.hid hb1; go_simp); (try (go_bits; try go_simp)); (try (rw [if_pos (by omega)]; try go_simp)); (first | done | (fail) | (with_reducible rfl) | exact rfl)))
                        simp only [Act.put, List.setIfInBounds_toArray, List.set_cons_zero, List.set_cons_succ]
                        refine WE_yes 13 rfl (by kernel_rfl) (fun _ _ _ _ _ h => h) (by rfl) ?_; apply Exists.intro; refine ⟨fun w1 hb1 => ?_, ?_⟩; (focus ((skip; have hb1 := Lib.hid hb1; go_simp); (try (go_bits; try go_simp)); (try (rw [if_pos (by omega)]; try go_simp)); (first | done | (fail) | (with_reducible rfl) | exact rfl)))
                        simp only [Act.put, List.setIfInBounds_toArray, List.set_cons_zero, List.set_cons_succ]
                        refine WE_yes 14 rfl (by kernel_rfl) (fun _ _ _ _ _ h => h) (by rfl) ?_; apply Exists.intro; refine ⟨fun w1 hb1 => ?_, ?_⟩; (focus (((have kd := ((T.out.trans hb1).cell (p := ⟨g1, at' * 2 + 1, none⟩) HGL.out).trans KD.out); have hb1 := Lib.hid hb1; go_simp); (try (go_bits; try go_simp)); (try (rw [if_pos (by omega)]; try go_simp)); (first | done | (fail) | (with_reducible rfl) | exact rfl)))
                        simp only [Act.put, List.setIfInBounds_toArray, List.set_cons_zero, List.set_cons_succ]
                        refine WE_yes 15 rfl (by kernel_rfl) (fun _ _ _ _ _ h => h) (by rfl) ?_; apply Exists.intro; refine ⟨fun w1 hb1 => ?_, ?_⟩; (focus ((skip; have hb1 := Lib.hid hb1; go_simp); (try (go_bits; try go_simp)); (try (rw [if_pos (by omega)]; try go_simp)); (first | done | (fail) | (with_reducible rfl) | exact rfl)))
                        simp only [Act.put, List.setIfInBounds_toArray, List.set_cons_zero, List.set_cons_succ]
                        refine WE_yes 16 rfl (by kernel_rfl) (fun _ _ _ _ _ h => h) (by rfl) ?_; apply Exists.intro; refine ⟨fun w1 hb1 => ?_, ?_⟩; (focus ((skip; have hb1 := Lib.hid hb1; go_simp); (try (go_bits; try go_simp)); (try (rw [if_pos (by omega)]; try go_simp)); (first | done | (fail) | (with_reducible rfl) | exact rfl)))
                        simp only [Act.put, List.setIfInBounds_toArray, List.set_cons_zero, List.set_cons_succ]
                        refine WE_yes 17 rfl (by kernel_rfl) (fun _ _ _ _ _ h => h) (by rfl) ?_; apply Exists.intro; refine ⟨fun w1 hb1 => ?_, ?_⟩; (focus (((obtain ⟨-, k19, -⟩ := K19.out.to (T.out.trans hb1)); have hb1 := Lib.hid hb1; go_simp); (try (go_bits; try go_simp)); (try (rw [if_pos (by omega)]; try go_simp)); (first | done | (fail) | (with_reducible rfl) | exact rfl)))
                        simp only [Act.put, List.setIfInBounds_toArray, List.set_cons_zero, List.set_cons_succ]
                        refine WE_yes 18 rfl (by kernel_rfl) (fun _ _ _ _ _ h => h) (by rfl) ?_; apply Exists.intro; refine ⟨fun w1 hb1 => ?_, ?_⟩; (focus ((skip; have hb1 := Lib.hid hb1; go_simp); (try (go_bits; try go_simp)); (try (rw [if_pos (by omega)]; try go_simp)); (first | done | (fail) | (with_reducible rfl) | exact rfl)))
                        simp only [Act.put, List.setIfInBounds_toArray, List.set_cons_zero, List.set_cons_succ]
                        refine WE_yes 19 rfl (by kernel_rfl) (fun _ _ _ _ _ h => h) (by rfl) ?_; apply Exists.intro; refine ⟨fun w1 hb1 => ?_, ?_⟩; (focus ((skip; have hb1 := Lib.hid hb1; go_simp); (try (go_bits; try go_simp)); (try (rw [if_pos (by omega)]; try go_simp)); (first | done | (fail) | (with_reducible rfl) | exact rfl)))
                        simp only [Act.put, List.setIfInBounds_toArray, List.set_cons_zero, List.set_cons_succ]
                        refine WE_yes 20 rfl (by kernel_rfl) (fun _ _ _ _ _ h => h) (by rfl) ?_; apply Exists.intro; refine ⟨fun w1 hb1 => ?_, ?_⟩; (focus ((skip; have hb1 := Lib.hid hb1; go_simp); (try (go_bits; try go_simp)); (try (rw [if_pos (by omega)]; try go_simp)); (first | done | (fail) | (with_reducible rfl) | exact rfl)))
                        simp only [Act.put, List.setIfInBounds_toArray, List.set_cons_zero, List.set_cons_succ]
                        refine WE_yes 21 rfl (by kernel_rfl) (fun _ _ _ _ _ h => h) (by rfl) ?_; apply Exists.intro; refine ⟨fun w1 hb1 => ?_, ?_⟩; (focus (((have kd := ((T.out.trans hb1).cell (p := ⟨g1, at' * 2 + 1, none⟩) HGL.out).trans KD.out); have hb1 := Lib.hid hb1; go_simp); (try (go_bits; try go_simp)); (try (rw [if_pos (by omega)]; try go_simp)); (first | done | (fail) | (with_reducible rfl) | exact rfl)))
                        simp only [Act.put, List.setIfInBounds_toArray, List.set_cons_zero, List.set_cons_succ]
                        refine WE_one 22 rfl (by decide) (by kernel_rfl) ?_
                        unfold stepE
                        go_wp2_with fail
                        refine (HLW.out _).mono ?_
                        rintro e x11 ⟨rfl, hb⟩
                        have hbd := Lib.hid (hb.mono T.out.size)
                        replace T := Lib.hid (T.out.trans hbd.out)
                        clear hb
                        go_wp2_with fail
                        refine ⟨hbd.out, ?_⟩
                        clear hbd
                        refine WE_tail rfl (by kernel_rfl) ?_
                        simp only [List.drop_succ_cons, List.drop_zero]
                        have GBY := Lib.hid (GBX.out.to T.out)
                        have KNY := Lib.hid ((T.out.cell (p := ⟨g1, at' * 2, none⟩) HGL.out).trans KN.out)
                        have KDY := Lib.hid ((T.out.cell (p := ⟨g1, at' * 2 + 1, none⟩) HGL.out).trans KD.out)
                        have kn := KNY.out
                        have kd := KDY.out
                        obtain ⟨-, -, fz⟩ := GBY.out
                        go_wp2_with fail
                        clear kn kd fz
                        go_meet
                        case rel =>
                          have hrow := rowF_set GCX.out (k := at') (by rw [HLN1.out]; omega) (on + od, od)
                          have hbk := (GBY.out.set (at' * 2) (.int .i64 (on + od))).set (at' * 2 + 1) (.int .i64 od)
                          have hrd := hbk.row hrow
                          rw [HLN1.out] at hrd
                          have hwi : WrongI ks fs F nd m (ls.set at' (on + od, od)) us := WrongI.of HMVD.out HFS.out hnd0 HSM.out (a := at') (by rw [HLL.out]; omega) (s := 1) (.inl rfl) (by rw [set_left HLU.out (by rw [HLN1.out]; omega), HO.out]; dsimp only; rw [Int.one_mul]) (by first | exact HLN1.out | (rw [List.length_set]; exact HLN1.out)) (by first | exact HLN2.out | (rw [List.length_set]; exact HLN2.out))
                          refine ⟨_, _, Lib.hid hwi, Lib.hid hrd, Lib.hid (((GO2.out.to T.out).other ⟨g1, _, none⟩ _ hg1m).other ⟨g1, _, none⟩ _ hg1m).reads, Lib.hid (((K19.out.to T.out).other (p := ⟨g1, _, none⟩) (by dsimp only; omega) _).other (p := ⟨g1, _, none⟩) (by dsimp only; omega) _), Lib.hid (((bThen GB.out T.out).setCell (p := ⟨g1, _, none⟩) hg1 _).setCell (p := ⟨g1, _, none⟩) hg1 _)⟩
                    · have hatd : decide ((at' : Int) ≤ (nd : Int)) = false := decide_eq_false (by omega)
                      as_aux_lemma =>
                        obtain ⟨c, hc⟩ : ∃ c, nd + 1 + c = at' := ⟨at' - (nd + 1), by omega⟩
                        have hs1 : (at' : Int) - (nd : Int) = (c : Int) + 1 := by omega
                        have hcm : c < m := by have := HM.out; omega
                        have hcm2 : decide ((c : Int) < (m : Int)) = true := decide_eq_true (by omega)
                        have hcm3 : decide ((0 : Int) ≤ (c : Int)) = true := decide_eq_true (by omega)
                        obtain ⟨g2, cur2, rfl, hg2, hbk2, hc2⟩ := GO2.out.at (by omega)
                        have hg2s : g2 < B19 := HQ2S.out _ rfl
                        have G1R : Hid (Reads wN (some ⟨g1, 0, none⟩) ((nd + 1) * 2) (fracs ls)) := Lib.hid (GB1.out.row GC1.out)
                        have hox : fg us c = (on, od) := by rw [← ho, ← HLU.out, fg_app2 (by rw [HLN1.out]; omega), HLN1.out, show at' - (nd + 1) = c by omega]
                        have GBX := Lib.hid hbk2
                        have hlx : us.length = m := HLN2.out
                        have GCX : Hid (∀ i, i < us.length * 2 → cur2[i]? = some (fracs us i)) := Lib.hid (by rw [HLN2.out]; exact hc2)
                        clear hbk2 hc2
                        have KN : Hid (wN.cell? ⟨g2, c * 2, none⟩ = some (.int .i64 on)) := Lib.hid (by rw [GBX.out.2.1, GCX.out _ (by omega), fracs0, hox])
                        have KD : Hid (wN.cell? ⟨g2, c * 2 + 1, none⟩ = some (.int .i64 od)) := Lib.hid (by rw [GBX.out.2.1, GCX.out _ (by omega), fracs1, hox])
                        have hsmo := HSM.out at' (by rw [HLL.out]; omega)
                        have hlow := low_gcd (HLS.out at' (by omega)).1
                        rw [ho] at hsmo hlow
                        obtain ⟨o0, o1, d0, d1⟩ := hsmo
                        dsimp only at o0 o1 d0 d1 hlow
                        have HLW := Lib.hid (fun W => Lowest_any (on - od) od W (by omega) (by omega) (by omega))
                        rw [show fr (on - od) od = (on - od, od) by have := lowest_same (n := on) (d := od) (-1) hlow; rwa [show on + -1 * od = on - od by omega] at this] at HLW
                        dsimp only at HLW
                        have HGL : Hid (g2 < wN.heap.size) := Lib.hid GBX.out.1
                        have HO := Lib.hid ho
                        clear ho hox hlow
                        go_upto_region 35 with (fail)
                        refine wp_region_treeT 35 (by kernel_rfl) (by kernel_rfl) (fun wd hwd => ?_)
                        have T := Lib.hid hwd
                        clear hwd
                        refine WE_yes 0 rfl (by kernel_rfl) (fun _ _ _ _ _ h => h) (by rfl) ?_; apply Exists.intro; refine ⟨fun w1 hb1 => ?_, ?_⟩; (focus ((skip; have hb1 := Lib.hid hb1; go_simp); (try (go_bits; try go_simp)); (try (rw [if_pos (by omega)]; try go_simp)); (first | done | (fail) | (with_reducible rfl) | exact rfl)))
                        simp only [Act.put, List.setIfInBounds_toArray, List.set_cons_zero, List.set_cons_succ]
                        refine WE_yes 1 rfl (by kernel_rfl) (fun _ _ _ _ _ h => h) (by rfl) ?_; apply Exists.intro; refine ⟨fun w1 hb1 => ?_, ?_⟩; (focus (((obtain ⟨-, k19, -⟩ := K19.out.to (T.out.trans hb1)); have hb1 := Lib.hid hb1; go_simp); (try (go_bits; try go_simp)); (try (rw [if_pos (by omega)]; try go_simp)); (first | done | (fail) | (with_reducible rfl) | exact rfl)))
                        simp only [Act.put, List.setIfInBounds_toArray, List.set_cons_zero, List.set_cons_succ]
                        refine WE_yes 2 rfl (by kernel_rfl) (fun _ _ _ _ _ h => h) (by rfl) ?_; apply Exists.intro; refine ⟨fun w1 hb1 => ?_, ?_⟩; (focus ((skip; have hb1 := Lib.hid hb1; go_simp); (try (go_bits; try go_simp)); (try (rw [if_pos (by omega)]; try go_simp)); (first | done | (fail) | (with_reducible rfl) | exact rfl)))
                        simp only [Act.put, List.setIfInBounds_toArray, List.set_cons_zero, List.set_cons_succ]
                        refine WE_yes 3 rfl (by kernel_rfl) (fun _ _ _ _ _ h => h) (by rfl) ?_; apply Exists.intro; refine ⟨fun w1 hb1 => ?_, ?_⟩; (focus ((skip; have hb1 := Lib.hid hb1; go_simp); (try (go_bits; try go_simp)); (try (rw [if_pos (by omega)]; try go_simp)); (first | done | (fail) | (with_reducible rfl) | exact rfl)))
                        simp only [Act.put, List.setIfInBounds_toArray, List.set_cons_zero, List.set_cons_succ]
                        refine WE_yes 4 rfl (by kernel_rfl) (fun _ _ _ _ _ h => h) (by rfl) ?_; apply Exists.intro; refine ⟨fun w1 hb1 => ?_, ?_⟩; (focus ((skip; have hb1 := Lib.hid hb1; go_simp); (try (go_bits; try go_simp)); (try (rw [if_pos (by omega)]; try go_simp)); (first | done | (fail) | (with_reducible rfl) | exact rfl)))
                        simp only [Act.put, List.setIfInBounds_toArray, List.set_cons_zero, List.set_cons_succ]
                        refine WE_yes 5 rfl (by kernel_rfl) (fun _ _ _ _ _ h => h) (by rfl) ?_; apply Exists.intro; refine ⟨fun w1 hb1 => ?_, ?_⟩; (focus ((skip; have hb1 := Lib.hid hb1; go_simp); (try (go_bits; try go_simp)); (try (rw [if_pos (by omega)]; try go_simp)); (first | done | (fail) | (with_reducible rfl) | exact rfl)))
                        simp only [Act.put, List.setIfInBounds_toArray, List.set_cons_zero, List.set_cons_succ]
                        refine WE_yes 6 rfl (by kernel_rfl) (fun _ _ _ _ _ h => h) (by rfl) ?_; apply Exists.intro; refine ⟨fun w1 hb1 => ?_, ?_⟩; (focus ((skip; have hb1 := Lib.hid hb1; go_simp); (try (go_bits; try go_simp)); (try (rw [if_pos (by omega)]; try go_simp)); (first | done | (fail) | (with_reducible rfl) | exact rfl)))
                        simp only [Act.put, List.setIfInBounds_toArray, List.set_cons_zero, List.set_cons_succ]
                        refine WE_yes 7 rfl (by kernel_rfl) (fun _ _ _ _ _ h => h) (by rfl) ?_; apply Exists.intro; refine ⟨fun w1 hb1 => ?_, ?_⟩; (focus (((obtain ⟨-, k19, -⟩ := K19.out.to (T.out.trans hb1)); have hb1 := Lib.hid hb1; go_simp); (try (go_bits; try go_simp)); (try (rw [if_pos (by omega)]; try go_simp)); (first | done | (fail) | (with_reducible rfl) | exact rfl)))
                        simp only [Act.put, List.setIfInBounds_toArray, List.set_cons_zero, List.set_cons_succ]
                        refine WE_yes 8 rfl (by kernel_rfl) (fun _ _ _ _ _ h => h) (by rfl) ?_; apply Exists.intro; refine ⟨fun w1 hb1 => ?_, ?_⟩; (focus ((skip; have hb1 := Lib.hid hb1; go_simp); (try (go_bits; try go_simp)); (try (rw [if_pos (by omega)]; try go_simp)); (first | done | (fail) | (with_reducible rfl) | exact rfl)))
                        simp only [Act.put, List.setIfInBounds_toArray, List.set_cons_zero, List.set_cons_succ]
                        refine WE_yes 9 rfl (by kernel_rfl) (fun _ _ _ _ _ h => h) (by rfl) ?_; apply Exists.intro; refine ⟨fun w1 hb1 => ?_, ?_⟩; (focus ((skip; have hb1 := Lib.hid hb1; go_simp); (try (go_bits; try go_simp)); (try (rw [if_pos (by omega)]; try go_simp)); (first | done | (fail) | (with_reducible rfl) | exact rfl)))
                        simp only [Act.put, List.setIfInBounds_toArray, List.set_cons_zero, List.set_cons_succ]
                        refine WE_yes 10 rfl (by kernel_rfl) (fun _ _ _ _ _ h => h) (by rfl) ?_; apply Exists.intro; refine ⟨fun w1 hb1 => ?_, ?_⟩; (focus ((skip; have hb1 := Lib.hid hb1; go_simp); (try (go_bits; try go_simp)); (try (rw [if_pos (by omega)]; try go_simp)); (first | done | (fail) | (with_reducible rfl) | exact rfl)))
                        simp only [Act.put, List.setIfInBounds_toArray, List.set_cons_zero, List.set_cons_succ]
                        refine WE_yes 11 rfl (by kernel_rfl) (fun _ _ _ _ _ h => h) (by rfl) ?_; apply Exists.intro; refine ⟨fun w1 hb1 => ?_, ?_⟩; (focus ((skip; have hb1 := Lib.hid hb1; go_simp); (try (go_bits; try go_simp)); (try (rw [if_pos (by omega)]; try go_simp)); (first | done | (fail) | (with_reducible rfl) | exact rfl)))
                        simp only [Act.put, List.setIfInBounds_toArray, List.set_cons_zero, List.set_cons_succ]
                        refine WE_yes 12 rfl (by kernel_rfl) (fun _ _ _ _ _ h => h) (by rfl) ?_; apply Exists.intro; refine ⟨fun w1 hb1 => ?_, ?_⟩; (focus ((skip; have hb1 := Lib.hid hb1; go_simp); (try (go_bits; try go_simp)); (try (rw [if_pos (by omega)]; try go_simp)); (first | done | (fail) | (with_reducible rfl) | exact rfl)))
                        simp only [Act.put, List.setIfInBounds_toArray, List.set_cons_zero, List.set_cons_succ]
                        refine WE_yes 13 rfl (by kernel_rfl) (fun _ _ _ _ _ h => h) (by rfl) ?_; apply Exists.intro; refine ⟨fun w1 hb1 => ?_, ?_⟩; (focus ((skip; have hb1 := Lib.hid hb1; go_simp); (try (go_bits; try go_simp)); (try (rw [if_pos (by omega)]; try go_simp)); (first | done | (fail) | (with_reducible rfl) | exact rfl)))
                        simp only [Act.put, List.setIfInBounds_toArray, List.set_cons_zero, List.set_cons_succ]
                        refine WE_yes 14 rfl (by kernel_rfl) (fun _ _ _ _ _ h => h) (by rfl) ?_; apply Exists.intro; refine ⟨fun w1 hb1 => ?_, ?_⟩; (focus (((have kn := ((T.out.trans hb1).cell (p := ⟨g2, c * 2, none⟩) HGL.out).trans KN.out); have hb1 := Lib.hid hb1; go_simp); (try (go_bits; try go_simp)); (try (rw [if_pos (by omega)]; try go_simp)); (first | done | (fail) | (with_reducible rfl) | exact rfl)))
                        simp only [Act.put, List.setIfInBounds_toArray, List.set_cons_zero, List.set_cons_succ]
                        refine WE_yes 15 rfl (by kernel_rfl) (fun _ _ _ _ _ h => h) (by rfl) ?_; apply Exists.intro; refine ⟨fun w1 hb1 => ?_, ?_⟩; (focus ((skip; have hb1 := Lib.hid hb1; go_simp); (try (go_bits; try go_simp)); (try (rw [if_pos (by omega)]; try go_simp)); (first | done | (fail) | (with_reducible rfl) | exact rfl)))
                        simp only [Act.put, List.setIfInBounds_toArray, List.set_cons_zero, List.set_cons_succ]
                        refine WE_yes 16 rfl (by kernel_rfl) (fun _ _ _ _ _ h => h) (by rfl) ?_; apply Exists.intro; refine ⟨fun w1 hb1 => ?_, ?_⟩; (focus (((obtain ⟨-, k19, -⟩ := K19.out.to (T.out.trans hb1)); have hb1 := Lib.hid hb1; go_simp); (try (go_bits; try go_simp)); (try (rw [if_pos (by omega)]; try go_simp)); (first | done | (fail) | (with_reducible rfl) | exact rfl)))
                        simp only [Act.put, List.setIfInBounds_toArray, List.set_cons_zero, List.set_cons_succ]
                        refine WE_yes 17 rfl (by kernel_rfl) (fun _ _ _ _ _ h => h) (by rfl) ?_; apply Exists.intro; refine ⟨fun w1 hb1 => ?_, ?_⟩; (focus ((skip; have hb1 := Lib.hid hb1; go_simp); (try (go_bits; try go_simp)); (try (rw [if_pos (by omega)]; try go_simp)); (first | done | (fail) | (with_reducible rfl) | exact rfl)))
                        simp only [Act.put, List.setIfInBounds_toArray, List.set_cons_zero, List.set_cons_succ]
                        refine WE_yes 18 rfl (by kernel_rfl) (fun _ _ _ _ _ h => h) (by rfl) ?_; apply Exists.intro; refine ⟨fun w1 hb1 => ?_, ?_⟩; (focus ((skip; have hb1 := Lib.hid hb1; go_simp); (try (go_bits; try go_simp)); (try (rw [if_pos (by omega)]; try go_simp)); (first | done | (fail) | (with_reducible rfl) | exact rfl)))
                        simp only [Act.put, List.setIfInBounds_toArray, List.set_cons_zero, List.set_cons_succ]
                        refine WE_yes 19 rfl (by kernel_rfl) (fun _ _ _ _ _ h => h) (by rfl) ?_; apply Exists.intro; refine ⟨fun w1 hb1 => ?_, ?_⟩; (focus ((skip; have hb1 := Lib.hid hb1; go_simp); (try (go_bits; try go_simp)); (try (rw [if_pos (by omega)]; try go_simp)); (first | done | (fail) | (with_reducible rfl) | exact rfl)))
                        simp only [Act.put, List.setIfInBounds_toArray, List.set_cons_zero, List.set_cons_succ]
                        refine WE_yes 20 rfl (by kernel_rfl) (fun _ _ _ _ _ h => h) (by rfl) ?_; apply Exists.intro; refine ⟨fun w1 hb1 => ?_, ?_⟩; (focus ((skip; have hb1 := Lib.hid hb1; go_simp); (try (go_bits; try go_simp)); (try (rw [if_pos (by omega)]; try go_simp)); (first | done | (fail) | (with_reducible rfl) | exact rfl)))
                        simp only [Act.put, List.setIfInBounds_toArray, List.set_cons_zero, List.set_cons_succ]
                        refine WE_yes 21 rfl (by kernel_rfl) (fun _ _ _ _ _ h => h) (by rfl) ?_; apply Exists.intro; refine ⟨fun w1 hb1 => ?_, ?_⟩; (focus ((skip; have hb1 := Lib.hid hb1; go_simp); (try (go_bits; try go_simp)); (try (rw [if_pos (by omega)]; try go_simp)); (first | done | (fail) | (with_reducible rfl) | exact rfl)))
                        simp only [Act.put, List.setIfInBounds_toArray, List.set_cons_zero, List.set_cons_succ]
                        refine WE_yes 22 rfl (by kernel_rfl) (fun _ _ _ _ _ h => h) (by rfl) ?_; apply Exists.intro; refine ⟨fun w1 hb1 => ?_, ?_⟩; (focus ((skip; have hb1 := Lib.hid hb1; go_simp); (try (go_bits; try go_simp)); (try (rw [if_pos (by omega)]; try go_simp)); (first | done | (fail) | (with_reducible rfl) | exact rfl)))
                        simp only [Act.put, List.setIfInBounds_toArray, List.set_cons_zero, List.set_cons_succ]
                        refine WE_yes 23 rfl (by kernel_rfl) (fun _ _ _ _ _ h => h) (by rfl) ?_; apply Exists.intro; refine ⟨fun w1 hb1 => ?_, ?_⟩; (focus (((have kd := ((T.out.trans hb1).cell (p := ⟨g2, c * 2 + 1, none⟩) HGL.out).trans KD.out); have hb1 := Lib.hid hb1; go_simp); (try (go_bits; try go_simp)); (try (rw [if_pos (by omega)]; try go_simp)); (first | done | (fail) | (with_reducible rfl) | exact rfl)))
                        simp only [Act.put, List.setIfInBounds_toArray, List.set_cons_zero, List.set_cons_succ]
                        refine WE_yes 24 rfl (by kernel_rfl) (fun _ _ _ _ _ h => h) (by rfl) ?_; apply Exists.intro; refine ⟨fun w1 hb1 => ?_, ?_⟩; (focus ((skip; have hb1 := Lib.hid hb1; go_simp); (try (go_bits; try go_simp)); (try (rw [if_pos (by omega)]; try go_simp)); (first | done | (fail) | (with_reducible rfl) | exact rfl)))
                        simp only [Act.put, List.setIfInBounds_toArray, List.set_cons_zero, List.set_cons_succ]
                        refine WE_yes 25 rfl (by kernel_rfl) (fun _ _ _ _ _ h => h) (by rfl) ?_; apply Exists.intro; refine ⟨fun w1 hb1 => ?_, ?_⟩; (focus ((skip; have hb1 := Lib.hid hb1; go_simp); (try (go_bits; try go_simp)); (try (rw [if_pos (by omega)]; try go_simp)); (first | done | (fail) | (with_reducible rfl) | exact rfl)))
                        simp only [Act.put, List.setIfInBounds_toArray, List.set_cons_zero, List.set_cons_succ]
                        refine WE_yes 26 rfl (by kernel_rfl) (fun _ _ _ _ _ h => h) (by rfl) ?_; apply Exists.intro; refine ⟨fun w1 hb1 => ?_, ?_⟩; (focus (((obtain ⟨-, k19, -⟩ := K19.out.to (T.out.trans hb1)); have hb1 := Lib.hid hb1; go_simp); (try (go_bits; try go_simp)); (try (rw [if_pos (by omega)]; try go_simp)); (first | done | (fail) | (with_reducible rfl) | exact rfl)))
                        simp only [Act.put, List.setIfInBounds_toArray, List.set_cons_zero, List.set_cons_succ]
                        refine WE_yes 27 rfl (by kernel_rfl) (fun _ _ _ _ _ h => h) (by rfl) ?_; apply Exists.intro; refine ⟨fun w1 hb1 => ?_, ?_⟩; (focus ((skip; have hb1 := Lib.hid hb1; go_simp); (try (go_bits; try go_simp)); (try (rw [if_pos (by omega)]; try go_simp)); (first | done | (fail) | (with_reducible rfl) | exact rfl)))
                        simp only [Act.put, List.setIfInBounds_toArray, List.set_cons_zero, List.set_cons_succ]
                        refine WE_yes 28 rfl (by kernel_rfl) (fun _ _ _ _ _ h => h) (by rfl) ?_; apply Exists.intro; refine ⟨fun w1 hb1 => ?_, ?_⟩; (focus ((skip; have hb1 := Lib.hid hb1; go_simp); (try (go_bits; try go_simp)); (try (rw [if_pos (by omega)]; try go_simp)); (first | done | (fail) | (with_reducible rfl) | exact rfl)))
                        simp only [Act.put, List.setIfInBounds_toArray, List.set_cons_zero, List.set_cons_succ]
                        refine WE_yes 29 rfl (by kernel_rfl) (fun _ _ _ _ _ h => h) (by rfl) ?_; apply Exists.intro; refine ⟨fun w1 hb1 => ?_, ?_⟩; (focus ((skip; have hb1 := Lib.hid hb1; go_simp); (try (go_bits; try go_simp)); (try (rw [if_pos (by omega)]; try go_simp)); (first | done | (fail) | (with_reducible rfl) | exact rfl)))
                        simp only [Act.put, List.setIfInBounds_toArray, List.set_cons_zero, List.set_cons_succ]
                        refine WE_yes 30 rfl (by kernel_rfl) (fun _ _ _ _ _ h => h) (by rfl) ?_; apply Exists.intro; refine ⟨fun w1 hb1 => ?_, ?_⟩; (focus ((skip; have hb1 := Lib.hid hb1; go_simp); (try (go_bits; try go_simp)); (try (rw [if_pos (by omega)]; try go_simp)); (first | done | (fail) | (with_reducible rfl) | exact rfl)))
                        simp only [Act.put, List.setIfInBounds_toArray, List.set_cons_zero, List.set_cons_succ]
                        refine WE_yes 31 rfl (by kernel_rfl) (fun _ _ _ _ _ h => h) (by rfl) ?_; apply Exists.intro; refine ⟨fun w1 hb1 => ?_, ?_⟩; (focus ((skip; have hb1 := Lib.hid hb1; go_simp); (try (go_bits; try go_simp)); (try (rw [if_pos (by omega)]; try go_simp)); (first | done | (fail) | (with_reducible rfl) | exact rfl)))
                        simp only [Act.put, List.setIfInBounds_toArray, List.set_cons_zero, List.set_cons_succ]
                        refine WE_yes 32 rfl (by kernel_rfl) (fun _ _ _ _ _ h => h) (by rfl) ?_; apply Exists.intro; refine ⟨fun w1 hb1 => ?_, ?_⟩; (focus ((skip; have hb1 := Lib.hid hb1; go_simp); (try (go_bits; try go_simp)); (try (rw [if_pos (by omega)]; try go_simp)); (first | done | (fail) | (with_reducible rfl) | exact rfl)))
                        simp only [Act.put, List.setIfInBounds_toArray, List.set_cons_zero, List.set_cons_succ]
                        refine WE_yes 33 rfl (by kernel_rfl) (fun _ _ _ _ _ h => h) (by rfl) ?_; apply Exists.intro; refine ⟨fun w1 hb1 => ?_, ?_⟩; (focus (((have kd := ((T.out.trans hb1).cell (p := ⟨g2, c * 2 + 1, none⟩) HGL.out).trans KD.out); have hb1 := Lib.hid hb1; go_simp); (try (go_bits; try go_simp)); (try (rw [if_pos (by omega)]; try go_simp)); (first | done | (fail) | (with_reducible rfl) | exact rfl)))
                        simp only [Act.put, List.setIfInBounds_toArray, List.set_cons_zero, List.set_cons_succ]
                        refine WE_one 34 rfl (by decide) (by kernel_rfl) ?_
                        unfold stepE
                        go_wp2_with fail
                        refine (HLW.out _).mono ?_
                        rintro e x11 ⟨rfl, hb⟩
                        have hbd := Lib.hid (hb.mono T.out.size)
                        replace T := Lib.hid (T.out.trans hbd.out)
                        clear hb
                        go_wp2_with fail
                        refine ⟨hbd.out, ?_⟩
                        clear hbd
                        refine WE_tail rfl (by kernel_rfl) ?_
                        simp only [List.drop_succ_cons, List.drop_zero]
                        have GBY := Lib.hid (GBX.out.to T.out)
                        have KNY := Lib.hid ((T.out.cell (p := ⟨g2, c * 2, none⟩) HGL.out).trans KN.out)
                        have KDY := Lib.hid ((T.out.cell (p := ⟨g2, c * 2 + 1, none⟩) HGL.out).trans KD.out)
                        have kn := KNY.out
                        have kd := KDY.out
                        obtain ⟨-, -, fz⟩ := GBY.out
                        go_wp2_with fail
                        clear kn kd fz
                        go_meet
                        case rel =>
                          have hrow := rowF_set GCX.out (k := c) (by rw [HLN2.out]; omega) (on - od, od)
                          have hbk := (GBY.out.set (c * 2) (.int .i64 (on - od))).set (c * 2 + 1) (.int .i64 od)
                          have hrd := hbk.row hrow
                          rw [HLN2.out] at hrd
                          have hwi : WrongI ks fs F nd m ls (us.set c (on - od, od)) := WrongI.of HMVD.out HFS.out hnd0 HSM.out (a := at') (by rw [HLL.out]; omega) (s := (-1)) (.inr rfl) (by rw [set_right (a := at') (c := c) HLU.out (by rw [HLN1.out]; omega), HO.out]; dsimp only; rw [show on + -1 * od = on - od by omega]) (by first | exact HLN1.out | (rw [List.length_set]; exact HLN1.out)) (by first | exact HLN2.out | (rw [List.length_set]; exact HLN2.out))
                          refine ⟨_, _, Lib.hid hwi, Lib.hid (((G1R.out.to T.out).other ⟨g2, _, none⟩ _ (fun b off e => by cases e; dsimp only; omega)).other ⟨g2, _, none⟩ _ (fun b off e => by cases e; dsimp only; omega)), Lib.hid hrd, Lib.hid (((K19.out.to T.out).other (p := ⟨g2, _, none⟩) (by dsimp only; omega) _).other (p := ⟨g2, _, none⟩) (by dsimp only; omega) _), Lib.hid (((bThen GB.out T.out).setCell (p := ⟨g2, _, none⟩) (by dsimp only; omega) _).setCell (p := ⟨g2, _, none⟩) (by dsimp only; omega) _)⟩
                case rest =>
                  as_aux_lemma =>
                    obtain ⟨ls', us', HW, G3, G4, K19', GB'⟩ := hcut
                    obtain ⟨wP, hwP⟩ : ∃ wo, wo = wc := ⟨_, rfl⟩
                    subst hwP
                    have K2 := Lib.hid (K2L.out.to GB'.out)
                    have K15 := Lib.hid (K15L.out.to GB'.out)
                    have HRM := Lib.hid (HRML.out.to GB'.out)
                    have HRL := Lib.hid (HRLL.out.to GB'.out)
                    have HRU := Lib.hid (HRUL.out.to GB'.out)
                    have HB := Lib.hid (bThen HBL.out GB'.out)
                    have HKW := Lib.hid (HKG.out ls' us' HW.out.l1 HW.out.l2 HW.out.i1 HW.out.i2)
                    rw [HKN.out, HFN.out, HW.out.l1, HW.out.l2] at HKW
                    obtain ⟨v, z, hvz⟩ : ∃ v z, chH ks fs ls' us' F nd = (v, z) := ⟨_, _, rfl⟩
                    have hno := HW.out.no
                    rw [hvz] at HKW hno
                    dsimp only at HKW hno
                    have HNO := Lib.hid hno
                    clear K2L K15L HRML HRLL HRUL HBL GB' GB K19 GB1 GC1 GO2 HQ2S hvz HW hg1 hg1m hg1s hm1 HKG hno
                
                    go_upto_region 36 with (fail)
                    refine wp_region_tree (by kernel_rfl) (fun wd hwd => ?_)
                    have T := Lib.hid hwd
                    clear hwd
                    refine WT_yes 0 rfl (by kernel_rfl) (fun _ _ _ _ _ h => h) (by rfl) ?_; apply Exists.intro; refine ⟨fun w1 hb1 => ?_, ?_⟩; (focus (((obtain ⟨-, k2, -⟩ := K2.out.to (T.out.trans hb1)); have hb1 := Lib.hid hb1; go_simp); (try (go_bits; try go_simp)); (try (rw [if_pos (by omega)]; try go_simp)); (first | done | (fail) | (with_reducible rfl) | exact rfl)))
                    simp only [Act.put, List.setIfInBounds_toArray, List.set_cons_zero, List.set_cons_succ]
                    refine WT_yes 2 rfl (by kernel_rfl) (fun _ _ _ _ _ h => h) (by rfl) ?_; apply Exists.intro; refine ⟨fun w1 hb1 => ?_, ?_⟩; (focus ((skip; have hb1 := Lib.hid hb1; go_simp); (try (go_bits; try go_simp)); (try (rw [if_pos (by omega)]; try go_simp)); (first | done | (fail) | (with_reducible rfl) | exact rfl)))
                    simp only [Act.put, List.setIfInBounds_toArray, List.set_cons_zero, List.set_cons_succ]
                    refine WT_yes 3 rfl (by kernel_rfl) (fun _ _ _ _ _ h => h) (by rfl) ?_; apply Exists.intro; refine ⟨fun w1 hb1 => ?_, ?_⟩; (focus (((obtain ⟨-, k19, -⟩ := K19'.out.to (T.out.trans hb1)); have hb1 := Lib.hid hb1; go_simp); (try (go_bits; try go_simp)); (try (rw [if_pos (by omega)]; try go_simp)); (first | done | (fail) | (with_reducible rfl) | exact rfl)))
                    simp only [Act.put, List.setIfInBounds_toArray, List.set_cons_zero, List.set_cons_succ]
                    refine WT_one 1 rfl (by kernel_rfl) ?_
                    unfold stepT
                    go_wp2_with fail
                    refine (HCC.out _ (bThen HB.out T.out)).mono ?_
                    rintro e x8 ⟨y1, e1, y2, e2, rfl, -, ge, g1, g2, hb, -, -⟩
                    have G1 := Lib.hid g1
                    have G2 := Lib.hid g2
                    have GE := Lib.hid ge
                    have hbd := Lib.hid (hb.mono T.out.size)
                    replace T := Lib.hid (T.out.trans hbd.out)
                    clear hb g1 g2 ge
                    go_wp2_with fail
                    refine ⟨hbd.out, ?_⟩
                    clear hbd
                    refine WT_one 4 rfl (by kernel_rfl) ?_
                    unfold stepT
                    go_wp2_with fail
                    refine (HKW.out _ _ _ _ _ _ _ _ _ GE.out G1.out G2.out (G3.out.to T.out) (G4.out.to T.out)).mono ?_
                    rintro e x10 ⟨rfl, hb⟩
                    clear G1 G2 G3 G4 GE
                    have hbd := Lib.hid (hb.mono T.out.size)
                    replace T := Lib.hid (T.out.trans hbd.out)
                    clear hb
                    go_wp2_with fail
                    refine ⟨hbd.out, ?_⟩
                    clear hbd
                    refine WT_yes 5 rfl (by kernel_rfl) (fun _ _ _ _ _ h => h) (by rfl) ?_; apply Exists.intro; refine ⟨fun w1 hb1 => ?_, ?_⟩; (focus ((skip; have hb1 := Lib.hid hb1; go_simp); (try (go_bits; try go_simp)); (try (rw [if_pos (by omega)]; try go_simp)); (first | done | (fail) | (with_reducible rfl) | exact rfl)))
                    simp only [Act.put, List.setIfInBounds_toArray, List.set_cons_zero, List.set_cons_succ]
                    refine WT_yes 6 rfl (by kernel_rfl) (fun _ _ _ _ _ h => h) (by rfl) ?_; apply Exists.intro; refine ⟨fun w1 hb1 => ?_, ?_⟩; (focus ((skip; have hb1 := Lib.hid hb1; go_simp); (try (go_bits; try go_simp)); (try (rw [if_pos (by omega)]; try go_simp)); (first | done | (fail) | (with_reducible rfl) | exact rfl)))
                    simp only [Act.put, List.setIfInBounds_toArray, List.set_cons_zero, List.set_cons_succ]
                    refine WT_yes 7 rfl (by kernel_rfl) (fun _ _ _ _ _ h => h) (by rfl) ?_; apply Exists.intro; refine ⟨fun w1 hb1 => ?_, ?_⟩; (focus ((skip; have hb1 := Lib.hid hb1; go_simp); (try (go_bits; try go_simp)); (try (rw [if_pos (by omega)]; try go_simp)); (first | done | (fail) | (with_reducible rfl) | exact rfl)))
                    simp only [Act.put, List.setIfInBounds_toArray, List.set_cons_zero, List.set_cons_succ]
                    refine WT_yes 8 rfl (by kernel_rfl) (fun _ _ _ _ _ h => h) (by rfl) ?_; apply Exists.intro; refine ⟨fun w1 hb1 => ?_, ?_⟩; (focus ((skip; have hb1 := Lib.hid hb1; go_simp); (try (go_bits; try go_simp)); (try (rw [if_pos (by omega)]; try go_simp)); (first | done | (fail) | (with_reducible rfl) | exact rfl)))
                    simp only [Act.put, List.setIfInBounds_toArray, List.set_cons_zero, List.set_cons_succ]
                    refine WT_yes 9 rfl (by kernel_rfl) (fun _ _ _ _ _ h => h) (by rfl) ?_; apply Exists.intro; refine ⟨fun w1 hb1 => ?_, ?_⟩; (focus ((skip; have hb1 := Lib.hid hb1; go_simp); (try (go_bits; try go_simp)); (try (rw [if_pos (by omega)]; try go_simp)); (first | done | (fail) | (with_reducible rfl) | exact rfl)))
                    simp only [Act.put, List.setIfInBounds_toArray, List.set_cons_zero, List.set_cons_succ]
                    refine WT_done (by kernel_rfl) ?_
                    have hb := T.out
                    replace K2 := Lib.hid (K2.out.to hb)
                    replace K15 := Lib.hid (K15.out.to hb)
                    replace HRM := Lib.hid (HRM.out.to hb)
                    replace HRL := Lib.hid (HRL.out.to hb)
                    replace HRU := Lib.hid (HRU.out.to hb)
                    replace HB := Lib.hid (bThen HB.out hb)
                    clear hb T HKW K19'
                    obtain ⟨wQ, hwQ⟩ : ∃ wo, wo = x10 := ⟨_, rfl⟩
                    subst hwQ
                    go_upto_region 37 with (fail)
                    go_cut [281] from 268 to 281 (fun s wc => s = .bool false ∧ Hid (Below wQ.heap.size wQ wc))
                    case first =>
                      as_aux_lemma =>
                        rcases HNO.out with hz | hz
                        · subst hz
                          go_wp2_with fail
                          go_meet
                          case rel => exact ⟨rfl, Lib.hid (bSelf wQ)⟩
                        · subst hz
                          go_wp2_with fail
                          go_meet
                          case rel => exact ⟨rfl, Lib.hid (bSelf wQ)⟩
                    case rest =>
                      as_aux_lemma =>
                        obtain ⟨rfl, HC4⟩ := hcut
                        obtain ⟨wR, hwR⟩ : ∃ wo, wo = wc := ⟨_, rfl⟩
                        subst hwR
                        have hb := HC4.out
                        replace K2 := Lib.hid (K2.out.to hb)
                        replace K15 := Lib.hid (K15.out.to hb)
                        replace HRM := Lib.hid (HRM.out.to hb)
                        replace HRL := Lib.hid (HRL.out.to hb)
                        replace HRU := Lib.hid (HRU.out.to hb)
                        replace HB := Lib.hid (bThen HB.out hb)
                        clear hb HC4 HNO
                        obtain ⟨-, k2, -⟩ := K2.out
                        go_upto_if 287 with (fail)
                        clear k2
                        go_cut [23, 24, 25, 26, 305] from 282 to 345 (fun _ _ _ _ _ wc => Hid (Below wR.heap.size wR wc))
                        case first =>
                          as_aux_lemma =>
                            by_cases hnx : nd + 1 < n
                            · have hnxI : decide ((nd : Int) + 1 < (n : Int)) = true := decide_eq_true (by omega)
                              as_aux_lemma =>
                                obtain ⟨bk, ok, rfl, hbk', hck'⟩ := HR1.out.at (k := nd) (by omega)
                                obtain ⟨bf, of, rfl, hbf', hcf'⟩ := HR2.out.at (k := nd) (by omega)
                                have hx1 := Reads.dropI (l := ks) (b := bk) (off := ok) (W := w) (by rw [HKN.out]; exact HR1.out) (n := nd + 1) (by rw [HKN.out]; omega)
                                have hx2 := Reads.dropI (l := fs) (b := bf) (off := of) (W := w) (by rw [HFN.out]; exact HR2.out) (n := nd + 1) (by rw [HFN.out]; omega)
                                have hkl : (ks.drop (nd + 1)).length = n - (nd + 1) := by rw [List.length_drop, HKN.out]
                                have hfl : (fs.drop (nd + 1)).length = n - (nd + 1) := by rw [List.length_drop, HFN.out]
                                have hokd : ChOk (ks.drop (nd + 1)) (fs.drop (nd + 1)) := ok_drop HOK.out _
                                have HULX := HUL
                                obtain ⟨kd, hkd⟩ : ∃ z, ks.drop (nd + 1) = z := ⟨_, rfl⟩
                                obtain ⟨fd, hfd⟩ : ∃ z, fs.drop (nd + 1) = z := ⟨_, rfl⟩
                                rw [hkd] at hx1 hkl hokd HULX
                                rw [hfd] at hx2 hfl hokd HULX
                                have hchd : (chkC kd fd).2 = 0 := chkC_of hokd (by omega)
                                have HI1 := Lib.hid (fun W (hb : Below w.heap.size w W) => CopyInts_any kd (some ⟨bk, ok + (nd + 1), none⟩) (c1 - (nd + 1)) W (by omega) (hx1.to hb))
                                have HI2 := Lib.hid (fun W (hb : Below w.heap.size w W) => CopyInts_any fd (some ⟨bf, of + (nd + 1), none⟩) (c2 - (nd + 1)) W (by omega) (hx2.to hb))
                                have HMD2 := Lib.hid (fun W y1 y2 e1 e2 (ge : fd.length ≤ e2) (g1 : Reads W y1 kd.length (ints kd)) (g2 : Reads W y2 fd.length (ints fd)) => MovedOf_u kd fd y1 y2 e1 e2 W (by omega) ge g1 g2)
                                unfold MUPost at HMD2
                                rw [hkl] at HI1 HMD2
                                rw [hfl] at HI2 HMD2
                                obtain ⟨v2, z2, hv2, HZ2⟩ : ∃ v z, mvR kd fd = (v, z) ∧ Hid ((z = 8 ∧ v = []) ∨ (z = 0 ∧ mvO kd fd = some v)) := by
                                  unfold mvR
                                  rw [hchd, if_neg (fun h : (0 : Int) ≠ 0 => h rfl)]
                                  cases mvO kd fd with
                                  | none => exact ⟨_, _, rfl, Lib.hid (.inl ⟨rfl, rfl⟩)⟩
                                  | some v => exact ⟨_, _, rfl, Lib.hid (.inr ⟨rfl, rfl⟩)⟩
                                rw [hv2] at HMD2
                                dsimp only at HMD2
                                have HOKD := Lib.hid hokd
                                have HKL := Lib.hid hkl
                                have hr0 : 0 < n - (nd + 1) := by omega
                                have hce1 : ¬ c1 = nd + 1 := by have := HCP1.out; omega
                                have hce2 : ¬ c2 = nd + 1 := by have := HCP2.out; omega
                                have hle1 : nd + 1 ≤ c1 := by have := HCP1.out; omega
                                have hle2 : nd + 1 ≤ c2 := by have := HCP2.out; omega
                                clear hx1 hx2 hkl hfl hokd hkd hfd hchd hv2 hck' hcf' hbk' hbf'
                                go_upto_region 40 with (fail)
                                go_cut [23] from 282 to 300 (fun s wc => ∃ (B : Nat) (y1 y2 : Option Addr) (d1 d2 : Nat), s = .pointer (some ⟨B, 0, none⟩) ∧ Hid (n - (nd + 1) ≤ d2) ∧ Hid (Blk wc B (chV y1 (n - (nd + 1)) d1 y2 (n - (nd + 1)) d2)) ∧ Hid (Reads wc y1 (n - (nd + 1)) (ints kd)) ∧ Hid (Reads wc y2 (n - (nd + 1)) (ints fd)) ∧ Hid (Below wR.heap.size wR wc))
                                case first =>
                                  as_aux_lemma =>
                                    refine wp_region_treeT 14 (by kernel_rfl) (by kernel_rfl) (fun wd hwd => ?_)
                                    have T := Lib.hid hwd
                                    clear hwd
                                    refine WE_yes 0 rfl (by kernel_rfl) (fun _ _ _ _ _ h => h) (by rfl) ?_; apply Exists.intro; refine ⟨fun w1 hb1 => ?_, ?_⟩; (focus ((skip; have hb1 := Lib.hid hb1; go_simp); (try (go_bits; try go_simp)); (try (rw [if_pos (by omega)]; try go_simp)); (first | done | (fail) | (with_reducible rfl) | exact rfl)))
                                    simp only [Act.put, List.setIfInBounds_toArray, List.set_cons_zero, List.set_cons_succ]
                                    refine WE_yes 1 rfl (by kernel_rfl) (fun _ _ _ _ _ h => h) (by rfl) ?_; apply Exists.intro; refine ⟨fun w1 hb1 => ?_, ?_⟩; (focus (((obtain ⟨-, k2, -⟩ := K2.out.to (T.out.trans hb1)); have hb1 := Lib.hid hb1; go_simp); (try (go_bits; try go_simp)); (try (rw [if_pos (by omega)]; try go_simp)); (first | done | (fail) | (with_reducible rfl) | exact rfl)))
                                    simp only [Act.put, List.setIfInBounds_toArray, List.set_cons_zero, List.set_cons_succ]
                                    refine WE_yes 2 rfl (by kernel_rfl) (fun _ _ _ _ _ h => h) (by rfl) ?_; apply Exists.intro; refine ⟨fun w1 hb1 => ?_, ?_⟩; (focus ((skip; have hb1 := Lib.hid hb1; go_simp); (try (go_bits; try go_simp)); (try (rw [if_pos (by omega)]; try go_simp)); (first | done | (fail) | (with_reducible rfl) | exact rfl)))
                                    simp only [Act.put, List.setIfInBounds_toArray, List.set_cons_zero, List.set_cons_succ]
                                    refine WE_yes 3 rfl (by kernel_rfl) (fun _ _ _ _ _ h => h) (by rfl) ?_; apply Exists.intro; refine ⟨fun w1 hb1 => ?_, ?_⟩; (focus ((skip; have hb1 := Lib.hid hb1; go_simp); (try (go_bits; try go_simp)); (try (rw [if_pos (by omega)]; try go_simp)); (first | done | (fail) | (with_reducible rfl) | exact rfl)))
                                    simp only [Act.put, List.setIfInBounds_toArray, List.set_cons_zero, List.set_cons_succ]
                                    refine WE_yes 4 rfl (by kernel_rfl) (fun _ _ _ _ _ h => h) (by rfl) ?_; apply Exists.intro; refine ⟨fun w1 hb1 => ?_, ?_⟩; (focus ((skip; have hb1 := Lib.hid hb1; go_simp); (try (go_bits; try go_simp)); (try (rw [if_pos (by omega)]; try go_simp)); (first | done | (fail) | (with_reducible rfl) | exact rfl)))
                                    simp only [Act.put, List.setIfInBounds_toArray, List.set_cons_zero, List.set_cons_succ]
                                    refine WE_yes 6 rfl (by kernel_rfl) (fun _ _ _ _ _ h => h) (by rfl) ?_; apply Exists.intro; refine ⟨fun w1 hb1 => ?_, ?_⟩; (focus ((skip; have hb1 := Lib.hid hb1; go_simp); (try (go_bits; try go_simp)); (try (rw [if_pos (by omega)]; try go_simp)); (first | done | (fail) | (with_reducible rfl) | exact rfl)))
                                    simp only [Act.put, List.setIfInBounds_toArray, List.set_cons_zero, List.set_cons_succ]
                                    refine WE_yes 7 rfl (by kernel_rfl) (fun _ _ _ _ _ h => h) (by rfl) ?_; apply Exists.intro; refine ⟨fun w1 hb1 => ?_, ?_⟩; (focus (((obtain ⟨-, k2, -⟩ := K2.out.to (T.out.trans hb1)); have hb1 := Lib.hid hb1; go_simp); (try (go_bits; try go_simp)); (try (rw [if_pos (by omega)]; try go_simp)); (first | done | (fail) | (with_reducible rfl) | exact rfl)))
                                    simp only [Act.put, List.setIfInBounds_toArray, List.set_cons_zero, List.set_cons_succ]
                                    refine WE_yes 8 rfl (by kernel_rfl) (fun _ _ _ _ _ h => h) (by rfl) ?_; apply Exists.intro; refine ⟨fun w1 hb1 => ?_, ?_⟩; (focus ((skip; have hb1 := Lib.hid hb1; go_simp); (try (go_bits; try go_simp)); (try (rw [if_pos (by omega)]; try go_simp)); (first | done | (fail) | (with_reducible rfl) | exact rfl)))
                                    simp only [Act.put, List.setIfInBounds_toArray, List.set_cons_zero, List.set_cons_succ]
                                    refine WE_yes 9 rfl (by kernel_rfl) (fun _ _ _ _ _ h => h) (by rfl) ?_; apply Exists.intro; refine ⟨fun w1 hb1 => ?_, ?_⟩; (focus ((skip; have hb1 := Lib.hid hb1; go_simp); (try (go_bits; try go_simp)); (try (rw [if_pos (by omega)]; try go_simp)); (first | done | (fail) | (with_reducible rfl) | exact rfl)))
                                    simp only [Act.put, List.setIfInBounds_toArray, List.set_cons_zero, List.set_cons_succ]
                                    refine WE_yes 10 rfl (by kernel_rfl) (fun _ _ _ _ _ h => h) (by rfl) ?_; apply Exists.intro; refine ⟨fun w1 hb1 => ?_, ?_⟩; (focus ((skip; have hb1 := Lib.hid hb1; go_simp); (try (go_bits; try go_simp)); (try (rw [if_pos (by omega)]; try go_simp)); (first | done | (fail) | (with_reducible rfl) | exact rfl)))
                                    simp only [Act.put, List.setIfInBounds_toArray, List.set_cons_zero, List.set_cons_succ]
                                    refine WE_two 5 13 rfl rfl (by decide) (by decide) (by kernel_rfl) ?_ ?_
                                    · skip
                                      unfold stepE
                                      go_wp2_with fail
                                      refine (HI1.out _ (bThen HB.out T.out)).mono ?_
                                      rintro e wz1 ⟨y, d5, rfl, hd, hr, hb, hge⟩
                                      obtain ⟨g5, p5, rfl, hlt, -⟩ := hr.at (k := 0) hr0
                                      have HG5 := Lib.hid hr
                                      have HL5 : Hid (g5 < wz1.heap.size) := Lib.hid hlt
                                      have HQ5 : Hid (wd.heap.size ≤ g5) := Lib.hid (hge _ rfl)
                                      have G5 := Lib.hid hr
                                      have hbd := Lib.hid (hb.mono T.out.size)
                                      replace T := Lib.hid (T.out.trans hbd.out)
                                      clear hb hr hge hd hlt HG5
                                      go_wp2_with fail
                                      refine ⟨hbd.out, ?_⟩
                                      clear hbd
                                      refine WE_two 11 13 rfl rfl (by decide) (by decide) (by kernel_rfl) ?_ ?_
                                      · skip
                                        unfold stepE
                                        go_wp2_with fail
                                        refine (HI2.out _ (bThen HB.out T.out)).mono ?_
                                        rintro e wz2 ⟨y, d11, rfl, hd, hr, hb, hge⟩
                                        obtain ⟨g11, p11, rfl, hlt, -⟩ := hr.at (k := 0) hr0
                                        have HG11 := Lib.hid hr
                                        have HL11 : Hid (g11 < wz2.heap.size) := Lib.hid hlt
                                        have HQ11 : Hid (wz1.heap.size ≤ g11) := Lib.hid (hge _ rfl)
                                        have G11 := Lib.hid hr
                                        have GE := Lib.hid hd
                                        replace G5 := Lib.hid (G5.out.to hb)
                                        replace HL5 : Hid (g5 < wz2.heap.size) := Lib.hid (Nat.lt_of_lt_of_le HL5.out hb.size)
                                        have hbd := Lib.hid (hb.mono T.out.size)
                                        replace T := Lib.hid (T.out.trans hbd.out)
                                        clear hb hr hge hd hlt HG11
                                        go_wp2_with fail
                                        refine ⟨hbd.out, ?_⟩
                                        clear hbd
                                        refine WE_yes 12 rfl (by kernel_rfl) (fun _ _ _ _ _ h => h) (by rfl) ?_; apply Exists.intro; refine ⟨fun w1 hb1 => ?_, ?_⟩; (focus ((skip; have hb1 := Lib.hid hb1; go_simp); (try (go_bits; try go_simp)); (try (rw [if_pos (by omega)]; try go_simp)); (first | done | (fail) | (with_reducible rfl) | exact rfl)))
                                        simp only [Act.put, List.setIfInBounds_toArray, List.set_cons_zero, List.set_cons_succ]
                                        refine WE_one 13 rfl (by decide) (by kernel_rfl) ?_
                                        unfold stepE
                                        go_wp2_with fail
                                        have hbd := Lib.hid ((Below.refl wR.heap.size wz2).alloc T.out.size (.cells #[.slice none 0 0, .slice none 0 0] 73))
                                        refine ⟨hbd.out, ?_⟩
                                        have K23 := Lib.hid (Blk.new wz2 #[.slice none 0 0, .slice none 0 0] 73)
                                        have hb : Below wz2.heap.size wz2 (wz2.alloc (.cells #[.slice none 0 0, .slice none 0 0] 73)) := bAlloc (bSelf _) _
                                        obtain ⟨wz3, hw⟩ : ∃ z, wz2.alloc (.cells #[.slice none 0 0, .slice none 0 0] 73) = z := ⟨_, rfl⟩
                                        rw [hw] at hbd K23 hb ⊢
                                        obtain ⟨B23, hB⟩ : ∃ B, wz2.heap.size = B := ⟨_, rfl⟩
                                        have HBB : Hid (wR.heap.size ≤ B23) := Lib.hid (by rw [← hB]; exact T.out.size)
                                        have HN5 : Hid (g5 ≠ B23) := Lib.hid (by have h1 := HL5.out; omega)
                                        replace G5 := Lib.hid (G5.out.to hb)
                                        replace HL5 : Hid (g5 < wz3.heap.size) := Lib.hid (Nat.lt_of_lt_of_le HL5.out hb.size)
                                        have HN11 : Hid (g11 ≠ B23) := Lib.hid (by have h1 := HL11.out; omega)
                                        replace G11 := Lib.hid (G11.out.to hb)
                                        replace HL11 : Hid (g11 < wz3.heap.size) := Lib.hid (Nat.lt_of_lt_of_le HL11.out hb.size)
                                        rw [hB] at K23 ⊢
                                        replace T := Lib.hid (T.out.trans hbd.out)
                                        clear hb hw hB hbd
                                        refine WE_tail rfl (by kernel_rfl) ?_
                                        simp only [List.drop_succ_cons, List.drop_zero]
                                        obtain ⟨-, k23, fz⟩ := K23.out
                                        go_wp2_with fail
                                        clear k23 fz
                                        go_meet
                                        case rel =>
                                          have hk := (K23.out.set 0 (.slice (some ⟨g5, p5, none⟩) (n - (nd + 1)) d5)).set 1 (.slice (some ⟨g11, p11, none⟩) (n - (nd + 1)) d11)
                                          have hBB := HBB.out
                                          refine ⟨_, _, _, _, _, rfl, GE, Lib.hid (by simpa using hk), Lib.hid ((G5.out.other _ _ (fun b off e => by cases e; exact HN5.out)).other _ _ (fun b off e => by cases e; exact HN5.out)), Lib.hid ((G11.out.other _ _ (fun b off e => by cases e; exact HN11.out)).other _ _ (fun b off e => by cases e; exact HN11.out)), Lib.hid ((T.out.setCell (p := ⟨B23, 0, none⟩) hBB _).setCell (p := ⟨B23, 1, none⟩) hBB _)⟩
                                      · skip
                                        unfold stepE
                                        go_wp2_with fail
                                        have hbd := Lib.hid ((Below.refl wR.heap.size wz1).alloc T.out.size (.cells #[.slice none 0 0, .slice none 0 0] 73))
                                        refine ⟨hbd.out, ?_⟩
                                        have K23 := Lib.hid (Blk.new wz1 #[.slice none 0 0, .slice none 0 0] 73)
                                        have hb : Below wz1.heap.size wz1 (wz1.alloc (.cells #[.slice none 0 0, .slice none 0 0] 73)) := bAlloc (bSelf _) _
                                        obtain ⟨wz4, hw⟩ : ∃ z, wz1.alloc (.cells #[.slice none 0 0, .slice none 0 0] 73) = z := ⟨_, rfl⟩
                                        rw [hw] at hbd K23 hb ⊢
                                        obtain ⟨B23, hB⟩ : ∃ B, wz1.heap.size = B := ⟨_, rfl⟩
                                        have HBB : Hid (wR.heap.size ≤ B23) := Lib.hid (by rw [← hB]; exact T.out.size)
                                        have HN5 : Hid (g5 ≠ B23) := Lib.hid (by have h1 := HL5.out; omega)
                                        replace G5 := Lib.hid (G5.out.to hb)
                                        replace HL5 : Hid (g5 < wz4.heap.size) := Lib.hid (Nat.lt_of_lt_of_le HL5.out hb.size)
                                        rw [hB] at K23 ⊢
                                        replace T := Lib.hid (T.out.trans hbd.out)
                                        clear hb hw hB hbd
                                        refine WE_one 11 rfl (by decide) (by kernel_rfl) ?_
                                        unfold stepE
                                        go_wp2_with fail
                                        refine (HI2.out _ (bThen HB.out T.out)).mono ?_
                                        rintro e wz5 ⟨y, d11, rfl, hd, hr, hb, hge⟩
                                        obtain ⟨g11, p11, rfl, hlt, -⟩ := hr.at (k := 0) hr0
                                        have HG11 := Lib.hid hr
                                        have HL11 : Hid (g11 < wz5.heap.size) := Lib.hid hlt
                                        have HQ11 : Hid (wz4.heap.size ≤ g11) := Lib.hid (hge _ rfl)
                                        have G11 := Lib.hid hr
                                        have GE := Lib.hid hd
                                        have HN11 : Hid (g11 ≠ B23) := Lib.hid (by have h1 := HQ11.out; have h2 := K23.out.1; omega)
                                        replace K23 := Lib.hid (K23.out.to hb)
                                        replace G5 := Lib.hid (G5.out.to hb)
                                        replace HL5 : Hid (g5 < wz5.heap.size) := Lib.hid (Nat.lt_of_lt_of_le HL5.out hb.size)
                                        have hbd := Lib.hid (hb.mono T.out.size)
                                        replace T := Lib.hid (T.out.trans hbd.out)
                                        clear hb hr hge hd hlt HG11
                                        go_wp2_with fail
                                        refine ⟨hbd.out, ?_⟩
                                        clear hbd
                                        refine WE_yes 12 rfl (by kernel_rfl) (fun _ _ _ _ _ h => h) (by rfl) ?_; apply Exists.intro; refine ⟨fun w1 hb1 => ?_, ?_⟩; (focus ((skip; have hb1 := Lib.hid hb1; go_simp); (try (go_bits; try go_simp)); (try (rw [if_pos (by omega)]; try go_simp)); (first | done | (fail) | (with_reducible rfl) | exact rfl)))
                                        simp only [Act.put, List.setIfInBounds_toArray, List.set_cons_zero, List.set_cons_succ]
                                        refine WE_tail rfl (by kernel_rfl) ?_
                                        simp only [List.drop_succ_cons, List.drop_zero]
                                        obtain ⟨-, k23, fz⟩ := K23.out
                                        go_wp2_with fail
                                        clear k23 fz
                                        go_meet
                                        case rel =>
                                          have hk := (K23.out.set 0 (.slice (some ⟨g5, p5, none⟩) (n - (nd + 1)) d5)).set 1 (.slice (some ⟨g11, p11, none⟩) (n - (nd + 1)) d11)
                                          have hBB := HBB.out
                                          refine ⟨_, _, _, _, _, rfl, GE, Lib.hid (by simpa using hk), Lib.hid ((G5.out.other _ _ (fun b off e => by cases e; exact HN5.out)).other _ _ (fun b off e => by cases e; exact HN5.out)), Lib.hid ((G11.out.other _ _ (fun b off e => by cases e; exact HN11.out)).other _ _ (fun b off e => by cases e; exact HN11.out)), Lib.hid ((T.out.setCell (p := ⟨B23, 0, none⟩) hBB _).setCell (p := ⟨B23, 1, none⟩) hBB _)⟩
                                    · skip
                                      unfold stepE
                                      go_wp2_with fail
                                      have hbd := Lib.hid ((Below.refl wR.heap.size wd).alloc T.out.size (.cells #[.slice none 0 0, .slice none 0 0] 73))
                                      refine ⟨hbd.out, ?_⟩
                                      have K23 := Lib.hid (Blk.new wd #[.slice none 0 0, .slice none 0 0] 73)
                                      have hb : Below wd.heap.size wd (wd.alloc (.cells #[.slice none 0 0, .slice none 0 0] 73)) := bAlloc (bSelf _) _
                                      obtain ⟨wz6, hw⟩ : ∃ z, wd.alloc (.cells #[.slice none 0 0, .slice none 0 0] 73) = z := ⟨_, rfl⟩
                                      rw [hw] at hbd K23 hb ⊢
                                      obtain ⟨B23, hB⟩ : ∃ B, wd.heap.size = B := ⟨_, rfl⟩
                                      have HBB : Hid (wR.heap.size ≤ B23) := Lib.hid (by rw [← hB]; exact T.out.size)
                                      rw [hB] at K23 ⊢
                                      replace T := Lib.hid (T.out.trans hbd.out)
                                      clear hb hw hB hbd
                                      refine WE_one 5 rfl (by decide) (by kernel_rfl) ?_
                                      unfold stepE
                                      go_wp2_with fail
                                      refine (HI1.out _ (bThen HB.out T.out)).mono ?_
                                      rintro e wz7 ⟨y, d5, rfl, hd, hr, hb, hge⟩
                                      obtain ⟨g5, p5, rfl, hlt, -⟩ := hr.at (k := 0) hr0
                                      have HG5 := Lib.hid hr
                                      have HL5 : Hid (g5 < wz7.heap.size) := Lib.hid hlt
                                      have HQ5 : Hid (wz6.heap.size ≤ g5) := Lib.hid (hge _ rfl)
                                      have G5 := Lib.hid hr
                                      have HN5 : Hid (g5 ≠ B23) := Lib.hid (by have h1 := HQ5.out; have h2 := K23.out.1; omega)
                                      replace K23 := Lib.hid (K23.out.to hb)
                                      have hbd := Lib.hid (hb.mono T.out.size)
                                      replace T := Lib.hid (T.out.trans hbd.out)
                                      clear hb hr hge hd hlt HG5
                                      go_wp2_with fail
                                      refine ⟨hbd.out, ?_⟩
                                      clear hbd
                                      refine WE_one 11 rfl (by decide) (by kernel_rfl) ?_
                                      unfold stepE
                                      go_wp2_with fail
                                      refine (HI2.out _ (bThen HB.out T.out)).mono ?_
                                      rintro e wz8 ⟨y, d11, rfl, hd, hr, hb, hge⟩
                                      obtain ⟨g11, p11, rfl, hlt, -⟩ := hr.at (k := 0) hr0
                                      have HG11 := Lib.hid hr
                                      have HL11 : Hid (g11 < wz8.heap.size) := Lib.hid hlt
                                      have HQ11 : Hid (wz7.heap.size ≤ g11) := Lib.hid (hge _ rfl)
                                      have G11 := Lib.hid hr
                                      have GE := Lib.hid hd
                                      have HN11 : Hid (g11 ≠ B23) := Lib.hid (by have h1 := HQ11.out; have h2 := K23.out.1; omega)
                                      replace K23 := Lib.hid (K23.out.to hb)
                                      replace G5 := Lib.hid (G5.out.to hb)
                                      replace HL5 : Hid (g5 < wz8.heap.size) := Lib.hid (Nat.lt_of_lt_of_le HL5.out hb.size)
                                      have hbd := Lib.hid (hb.mono T.out.size)
                                      replace T := Lib.hid (T.out.trans hbd.out)
                                      clear hb hr hge hd hlt HG11
                                      go_wp2_with fail
                                      refine ⟨hbd.out, ?_⟩
                                      clear hbd
                                      refine WE_yes 12 rfl (by kernel_rfl) (fun _ _ _ _ _ h => h) (by rfl) ?_; apply Exists.intro; refine ⟨fun w1 hb1 => ?_, ?_⟩; (focus ((skip; have hb1 := Lib.hid hb1; go_simp); (try (go_bits; try go_simp)); (try (rw [if_pos (by omega)]; try go_simp)); (first | done | (fail) | (with_reducible rfl) | exact rfl)))
                                      simp only [Act.put, List.setIfInBounds_toArray, List.set_cons_zero, List.set_cons_succ]
                                      refine WE_tail rfl (by kernel_rfl) ?_
                                      simp only [List.drop_succ_cons, List.drop_zero]
                                      obtain ⟨-, k23, fz⟩ := K23.out
                                      go_wp2_with fail
                                      clear k23 fz
                                      go_meet
                                      case rel =>
                                        have hk := (K23.out.set 0 (.slice (some ⟨g5, p5, none⟩) (n - (nd + 1)) d5)).set 1 (.slice (some ⟨g11, p11, none⟩) (n - (nd + 1)) d11)
                                        have hBB := HBB.out
                                        refine ⟨_, _, _, _, _, rfl, GE, Lib.hid (by simpa using hk), Lib.hid ((G5.out.other _ _ (fun b off e => by cases e; exact HN5.out)).other _ _ (fun b off e => by cases e; exact HN5.out)), Lib.hid ((G11.out.other _ _ (fun b off e => by cases e; exact HN11.out)).other _ _ (fun b off e => by cases e; exact HN11.out)), Lib.hid ((T.out.setCell (p := ⟨B23, 0, none⟩) hBB _).setCell (p := ⟨B23, 1, none⟩) hBB _)⟩
                                case rest =>
                                  as_aux_lemma =>
                                    obtain ⟨B23, y1, y2, d1, d2, rfl, GE, K23, G1, G2, HCR⟩ := hcut
                                    obtain ⟨wS, hwS⟩ : ∃ wo, wo = wc := ⟨_, rfl⟩
                                    subst hwS
                                    have hb := HCR.out
                                    replace K2 := Lib.hid (K2.out.to hb)
                                    replace K15 := Lib.hid (K15.out.to hb)
                                    replace HRM := Lib.hid (HRM.out.to hb)
                                    replace HRL := Lib.hid (HRL.out.to hb)
                                    replace HRU := Lib.hid (HRU.out.to hb)
                                    replace HB := Lib.hid (bThen HB.out hb)
                                    clear hb HI1 HI2 hce1 hce2 hle1 hle2
                                    obtain ⟨-, k23, -⟩ := K23.out
                                    go_wp2_with fail
                                    refine (HMD2.out _ _ _ _ _ GE.out G1.out G2.out).mono ?_
                                    rintro e wT ⟨av, cv, rfl, hrv, hb⟩
                                    replace K2 := Lib.hid (K2.out.to hb)
                                    replace K15 := Lib.hid (K15.out.to hb)
                                    replace HRM := Lib.hid (HRM.out.to hb)
                                    replace HRL := Lib.hid (HRL.out.to hb)
                                    replace HRU := Lib.hid (HRU.out.to hb)
                                    replace HB := Lib.hid (bThen HB.out hb)
                                    replace HCR := Lib.hid (bThen HCR.out hb)
                                    have HRV := Lib.hid hrv
                                    clear hb k23 K23 G1 G2 GE HMD2 hrv
                                    rcases HZ2.out with ⟨hz, hvv⟩ | ⟨hz, hmo2⟩
                                    · subst hz
                                      subst hvv
                                      go_wp2_with fail
                                      go_meet
                                      case rel => exact HCR
                                    · subst hz
                                      have hmv2 := mvd_of HOKD.out hmo2
                                      have hlv : v2.length = m := by rw [hmv2.len, HKL.out]; have := HM.out; omega
                                      have HUX := Lib.hid (fun j hj => HULX.out v2 j hmo2 hj)
                                      have HLV := Lib.hid (fun j (hj : j < m) => (show lowB (fg v2 j).1 (fg v2 j).2 = true ∧ SmF (fg v2 j) from ⟨hmv2.low (by rw [HKL.out]; have := HM.out; omega), hmv2.sm j (by rw [hlv]; exact hj)⟩))
                                      have HAV := Lib.hid (fun W (hb : Below wT.heap.size wT W) => areLowest_yes v2 av cv W (by rw [hlv]; have := HM.out; omega) (fun k hk => HLV.out k (by rw [hlv] at hk; exact hk)) (HRV.out.to hb))
                                      rw [hlv] at HAV HRV ⊢
                                      clear hmv2 hlv hmo2 HZ2 HULX hr0
                                      obtain ⟨-, k15, -⟩ := K15.out
                                      go_wp2_with fail
                                      refine (HAV.out _ (bSelf _)).mono ?_
                                      rintro e wU ⟨rfl, hb⟩
                                      replace HRV := Lib.hid (HRV.out.to hb)
                                      replace HCR := Lib.hid (bThen HCR.out hb)
                                      replace K2 := Lib.hid (K2.out.to hb)
                                      replace K15 := Lib.hid (K15.out.to hb)
                                      replace HRM := Lib.hid (HRM.out.to hb)
                                      replace HRL := Lib.hid (HRL.out.to hb)
                                      replace HRU := Lib.hid (HRU.out.to hb)
                                      replace HB := Lib.hid (bThen HB.out hb)
                                      clear hb k15 HAV hnxI
                                      have hm6 : m ≤ 6 := by have := HM.out; omega
                                      go_wp2_with fail
                                      go_loopw [26] (fun iv wr => ∃ k : Nat, k ≤ m ∧ iv = .int .i64 k ∧ Hid (Below wU.heap.size wU wr)) (fun iv _ => m - (intOf iv).toNat)
                                      case atStart => exact ⟨0, Nat.zero_le _, rfl, Lib.hid (bSelf wU)⟩
                                      case round =>
                                        obtain ⟨k, hk, rfl, hBk⟩ := hrel
                                        replace K15 := Lib.hid (K15.out.to hBk.out)
                                        replace HRM := Lib.hid (HRM.out.to hBk.out)
                                        replace HRU := Lib.hid (HRU.out.to hBk.out)
                                        replace HRV := Lib.hid (HRV.out.to hBk.out)
                                        by_cases hlt : k < m
                                        · have hltI : decide ((k : Int) < (m : Int)) = true := decide_eq_true (by omega)
                                          as_aux_lemma =>
                                            obtain ⟨bv, ov, rfl, hbv, hcv⟩ := HRV.out.at (k := k * 2) (by omega)
                                            obtain ⟨bm, om, rfl, hbm, hcm⟩ := HRM.out.at (k := nd * 2) (by omega)
                                            obtain ⟨bx, ox, rfl, hbx, hcx⟩ := HRU.out.at (k := k * 2) (by omega)
                                            have hux := HUX.out k (by rw [HKN.out]; have := HM.out; omega)
                                            have hfx : fg l (nd + 1 + k) = fg us k := by rw [← HLU.out, fg_app2 (by rw [HLN1.out]; omega), HLN1.out, show nd + 1 + k - (nd + 1) = k by omega]
                                            rw [hfx] at hux
                                            have hs1 := (HLV.out k hlt).2
                                            have hs2 := (HLS.out nd hndn).2
                                            have hs3 : SmF (fg us k) := by rw [← hfx]; exact (HLS.out (nd + 1 + k) (by have := HM.out; omega)).2
                                            obtain ⟨n1, d1', hp1⟩ : ∃ a b, fg v2 k = (a, b) := ⟨_, _, rfl⟩
                                            obtain ⟨n2, d2', hp2⟩ : ∃ a b, fg l nd = (a, b) := ⟨_, _, rfl⟩
                                            obtain ⟨n3, d3', hp3⟩ : ∃ a b, fg us k = (a, b) := ⟨_, _, rfl⟩
                                            have KV : Hid (wr.cell? ⟨bv, ov + k * 2, none⟩ = some (.int .i64 n1) ∧ wr.cell? ⟨bv, ov + k * 2 + 1, none⟩ = some (.int .i64 d1')) := Lib.hid ⟨by rw [hcv _ (by omega), fracs0, hp1], by rw [Nat.add_assoc, hcv _ (by omega), fracs1, hp1]⟩
                                            have KM : Hid (wr.cell? ⟨bm, om + nd * 2, none⟩ = some (.int .i64 n2) ∧ wr.cell? ⟨bm, om + nd * 2 + 1, none⟩ = some (.int .i64 d2')) := Lib.hid ⟨by rw [hcm _ (by omega), fracs0, hp2], by rw [Nat.add_assoc, hcm _ (by omega), fracs1, hp2]⟩
                                            have KX : Hid (wr.cell? ⟨bx, ox + k * 2, none⟩ = some (.int .i64 n3) ∧ wr.cell? ⟨bx, ox + k * 2 + 1, none⟩ = some (.int .i64 d3')) := Lib.hid ⟨by rw [hcx _ (by omega), fracs0, hp3], by rw [Nat.add_assoc, hcx _ (by omega), fracs1, hp3]⟩
                                            rw [hp1] at hux hs1
                                            rw [hp2] at hux hs2
                                            rw [hp3] at hux hs3
                                            have HF1 := Lib.hid (fun W => From_sm (n1, d1') W hs1)
                                            have HF2 := Lib.hid (fun W => From_sm (n2, d2') W hs2)
                                            have HF3 := Lib.hid (fun W => From_sm (n3, d3') W hs3)
                                            have HAD := Lib.hid (fun W e1 e2 e3 e4 u1 u2 q1 q2 => Add_sm (n1, d1') (n2, d2') e1 e2 e3 e4 u1 u2 W hs1 hs2 q1 q2)
                                            have HCM := Lib.hid (fun W e1 e2 e3 e4 u1 u2 q1 q2 => Cmp_zero (n1, d1') (n2, d2') (n3, d3') e1 e2 e3 e4 u1 u2 W hs1 hs2 hs3 q1 q2 hux)
                                            have HVQ := Lib.hid hbv
                                            have HMQ := Lib.hid hbm
                                            have HXQ := Lib.hid hbx
                                            have hndnI : decide ((nd : Int) < (n : Int)) = true := decide_eq_true (by omega)
                                            dsimp only at HF1 HF2 HF3
                                            clear hux hs1 hs2 hs3 hp1 hp2 hp3 hcv hcm hcx hfx hbv hbm hbx
                                            go_upto_region 48 with (fail)
                                            refine wp_region_tree (by kernel_rfl) (fun wd hwd => ?_)
                                            have T := Lib.hid hwd
                                            clear hwd
                                            refine WT_yes 0 rfl (by kernel_rfl) (fun _ _ _ _ _ h => h) (by rfl) ?_; apply Exists.intro; refine ⟨fun w1 hb1 => ?_, ?_⟩; (focus ((skip; have hb1 := Lib.hid hb1; go_simp); (try (go_bits; try go_simp)); (try (rw [if_pos (by omega)]; try go_simp)); (first | done | (fail) | (with_reducible rfl) | exact rfl)))
                                            simp only [Act.put, List.setIfInBounds_toArray, List.set_cons_zero, List.set_cons_succ]
                                            refine WT_yes 1 rfl (by kernel_rfl) (fun _ _ _ _ _ h => h) (by rfl) ?_; apply Exists.intro; refine ⟨fun w1 hb1 => ?_, ?_⟩; (focus ((skip; have hb1 := Lib.hid hb1; go_simp); (try (go_bits; try go_simp)); (try (rw [if_pos (by omega)]; try go_simp)); (first | done | (fail) | (with_reducible rfl) | exact rfl)))
                                            simp only [Act.put, List.setIfInBounds_toArray, List.set_cons_zero, List.set_cons_succ]
                                            refine WT_yes 2 rfl (by kernel_rfl) (fun _ _ _ _ _ h => h) (by rfl) ?_; apply Exists.intro; refine ⟨fun w1 hb1 => ?_, ?_⟩; (focus ((skip; have hb1 := Lib.hid hb1; go_simp); (try (go_bits; try go_simp)); (try (rw [if_pos (by omega)]; try go_simp)); (first | done | (fail) | (with_reducible rfl) | exact rfl)))
                                            simp only [Act.put, List.setIfInBounds_toArray, List.set_cons_zero, List.set_cons_succ]
                                            refine WT_yes 3 rfl (by kernel_rfl) (fun _ _ _ _ _ h => h) (by rfl) ?_; apply Exists.intro; refine ⟨fun w1 hb1 => ?_, ?_⟩; (focus (((have kc0 := ((T.out.trans hb1).cell (p := ⟨bv, ov + k * 2, none⟩) HVQ.out).trans KV.out.1; have kc1 := ((T.out.trans hb1).cell (p := ⟨bv, ov + k * 2 + 1, none⟩) HVQ.out).trans KV.out.2); have hb1 := Lib.hid hb1; go_simp); (try (go_bits; try go_simp)); (try (rw [if_pos (by omega)]; try go_simp)); (first | done | (fail) | (with_reducible rfl) | exact rfl)))
                                            simp only [Act.put, List.setIfInBounds_toArray, List.set_cons_zero, List.set_cons_succ]
                                            refine WT_yes 5 rfl (by kernel_rfl) (fun _ _ _ _ _ h => h) (by rfl) ?_; apply Exists.intro; refine ⟨fun w1 hb1 => ?_, ?_⟩; (focus ((skip; have hb1 := Lib.hid hb1; go_simp); (try (go_bits; try go_simp)); (try (rw [if_pos (by omega)]; try go_simp)); (first | done | (fail) | (with_reducible rfl) | exact rfl)))
                                            simp only [Act.put, List.setIfInBounds_toArray, List.set_cons_zero, List.set_cons_succ]
                                            refine WT_yes 6 rfl (by kernel_rfl) (fun _ _ _ _ _ h => h) (by rfl) ?_; apply Exists.intro; refine ⟨fun w1 hb1 => ?_, ?_⟩; (focus ((skip; have hb1 := Lib.hid hb1; go_simp); (try (go_bits; try go_simp)); (try (rw [if_pos (by omega)]; try go_simp)); (first | done | (fail) | (with_reducible rfl) | exact rfl)))
                                            simp only [Act.put, List.setIfInBounds_toArray, List.set_cons_zero, List.set_cons_succ]
                                            refine WT_yes 7 rfl (by kernel_rfl) (fun _ _ _ _ _ h => h) (by rfl) ?_; apply Exists.intro; refine ⟨fun w1 hb1 => ?_, ?_⟩; (focus ((skip; have hb1 := Lib.hid hb1; go_simp); (try (go_bits; try go_simp)); (try (rw [if_pos (by omega)]; try go_simp)); (first | done | (fail) | (with_reducible rfl) | exact rfl)))
                                            simp only [Act.put, List.setIfInBounds_toArray, List.set_cons_zero, List.set_cons_succ]
                                            refine WT_yes 8 rfl (by kernel_rfl) (fun _ _ _ _ _ h => h) (by rfl) ?_; apply Exists.intro; refine ⟨fun w1 hb1 => ?_, ?_⟩; (focus (((have kc0 := ((T.out.trans hb1).cell (p := ⟨bm, om + nd * 2, none⟩) HMQ.out).trans KM.out.1; have kc1 := ((T.out.trans hb1).cell (p := ⟨bm, om + nd * 2 + 1, none⟩) HMQ.out).trans KM.out.2); have hb1 := Lib.hid hb1; go_simp); (try (go_bits; try go_simp)); (try (rw [if_pos (by omega)]; try go_simp)); (first | done | (fail) | (with_reducible rfl) | exact rfl)))
                                            simp only [Act.put, List.setIfInBounds_toArray, List.set_cons_zero, List.set_cons_succ]
                                            refine WT_yes 11 rfl (by kernel_rfl) (fun _ _ _ _ _ h => h) (by rfl) ?_; apply Exists.intro; refine ⟨fun w1 hb1 => ?_, ?_⟩; (focus ((skip; have hb1 := Lib.hid hb1; go_simp); (try (go_bits; try go_simp)); (try (rw [if_pos (by omega)]; try go_simp)); (first | done | (fail) | (with_reducible rfl) | exact rfl)))
                                            simp only [Act.put, List.setIfInBounds_toArray, List.set_cons_zero, List.set_cons_succ]
                                            refine WT_yes 12 rfl (by kernel_rfl) (fun _ _ _ _ _ h => h) (by rfl) ?_; apply Exists.intro; refine ⟨fun w1 hb1 => ?_, ?_⟩; (focus (((obtain ⟨-, k15, -⟩ := K15.out.to (T.out.trans hb1)); have hb1 := Lib.hid hb1; go_simp); (try (go_bits; try go_simp)); (try (rw [if_pos (by omega)]; try go_simp)); (first | done | (fail) | (with_reducible rfl) | exact rfl)))
                                            simp only [Act.put, List.setIfInBounds_toArray, List.set_cons_zero, List.set_cons_succ]
                                            refine WT_yes 13 rfl (by kernel_rfl) (fun _ _ _ _ _ h => h) (by rfl) ?_; apply Exists.intro; refine ⟨fun w1 hb1 => ?_, ?_⟩; (focus ((skip; have hb1 := Lib.hid hb1; go_simp); (try (go_bits; try go_simp)); (try (rw [if_pos (by omega)]; try go_simp)); (first | done | (fail) | (with_reducible rfl) | exact rfl)))
                                            simp only [Act.put, List.setIfInBounds_toArray, List.set_cons_zero, List.set_cons_succ]
                                            refine WT_yes 14 rfl (by kernel_rfl) (fun _ _ _ _ _ h => h) (by rfl) ?_; apply Exists.intro; refine ⟨fun w1 hb1 => ?_, ?_⟩; (focus ((skip; have hb1 := Lib.hid hb1; go_simp); (try (go_bits; try go_simp)); (try (rw [if_pos (by omega)]; try go_simp)); (first | done | (fail) | (with_reducible rfl) | exact rfl)))
                                            simp only [Act.put, List.setIfInBounds_toArray, List.set_cons_zero, List.set_cons_succ]
                                            refine WT_yes 15 rfl (by kernel_rfl) (fun _ _ _ _ _ h => h) (by rfl) ?_; apply Exists.intro; refine ⟨fun w1 hb1 => ?_, ?_⟩; (focus (((have kc0 := ((T.out.trans hb1).cell (p := ⟨bx, ox + k * 2, none⟩) HXQ.out).trans KX.out.1; have kc1 := ((T.out.trans hb1).cell (p := ⟨bx, ox + k * 2 + 1, none⟩) HXQ.out).trans KX.out.2); have hb1 := Lib.hid hb1; go_simp); (try (go_bits; try go_simp)); (try (rw [if_pos (by omega)]; try go_simp)); (first | done | (fail) | (with_reducible rfl) | exact rfl)))
                                            simp only [Act.put, List.setIfInBounds_toArray, List.set_cons_zero, List.set_cons_succ]
                                            refine WT_one 4 rfl (by kernel_rfl) ?_
                                            unfold stepT
                                            go_wp2_with fail
                                            refine (HF1.out _).mono ?_
                                            rintro e wy1 ⟨aA, bA, vA, rfl, hv, hb, -⟩
                                            have HVA := Lib.hid hv
                                            have hbd := Lib.hid (hb.mono T.out.size)
                                            replace T := Lib.hid (T.out.trans hbd.out)
                                            clear hb hv
                                            go_wp2_with fail
                                            refine ⟨hbd.out, ?_⟩
                                            clear hbd
                                            refine WT_one 9 rfl (by kernel_rfl) ?_
                                            unfold stepT
                                            go_wp2_with fail
                                            refine (HF2.out _).mono ?_
                                            rintro e wy2 ⟨aB, bB, vB, rfl, hv, hb, -⟩
                                            have HVB := Lib.hid hv
                                            have hbd := Lib.hid (hb.mono T.out.size)
                                            replace T := Lib.hid (T.out.trans hbd.out)
                                            replace HVA := Lib.hid (HVA.out.to hb)
                                            clear hb hv
                                            go_wp2_with fail
                                            refine ⟨hbd.out, ?_⟩
                                            clear hbd
                                            refine WT_one 10 rfl (by kernel_rfl) ?_
                                            unfold stepT
                                            go_wp2_with fail
                                            refine (HAD.out _ _ _ _ _ _ _ HVA.out HVB.out).mono ?_
                                            rintro e wy3 ⟨aC, bC, vC, rfl, hv, hb, -⟩
                                            have HVC := Lib.hid hv
                                            have hbd := Lib.hid (hb.mono T.out.size)
                                            replace T := Lib.hid (T.out.trans hbd.out)
                                            clear hb hv
                                            go_wp2_with fail
                                            refine ⟨hbd.out, ?_⟩
                                            clear hbd
                                            refine WT_one 16 rfl (by kernel_rfl) ?_
                                            unfold stepT
                                            go_wp2_with fail
                                            refine (HF3.out _).mono ?_
                                            rintro e wy4 ⟨aD, bD, vD, rfl, hv, hb, -⟩
                                            have HVD := Lib.hid hv
                                            have hbd := Lib.hid (hb.mono T.out.size)
                                            replace T := Lib.hid (T.out.trans hbd.out)
                                            replace HVC := Lib.hid (HVC.out.to hb)
                                            clear hb hv
                                            go_wp2_with fail
                                            refine ⟨hbd.out, ?_⟩
                                            clear hbd
                                            refine WT_one 17 rfl (by kernel_rfl) ?_
                                            unfold stepT
                                            go_wp2_with fail
                                            refine (HCM.out _ _ _ _ _ _ _ HVC.out HVD.out).mono ?_
                                            rintro e wy5 ⟨rfl, hb⟩
                                            have hbd := Lib.hid (hb.mono T.out.size)
                                            replace T := Lib.hid (T.out.trans hbd.out)
                                            clear hb
                                            go_wp2_with fail
                                            refine ⟨hbd.out, ?_⟩
                                            clear hbd
                                            refine WT_yes 18 rfl (by kernel_rfl) (fun _ _ _ _ _ h => h) (by rfl) ?_; apply Exists.intro; refine ⟨fun w1 hb1 => ?_, ?_⟩; (focus ((skip; have hb1 := Lib.hid hb1; go_simp); (try (go_bits; try go_simp)); (try (rw [if_pos (by omega)]; try go_simp)); (first | done | (fail) | (with_reducible rfl) | exact rfl)))
                                            simp only [Act.put, List.setIfInBounds_toArray, List.set_cons_zero, List.set_cons_succ]
                                            refine WT_done (by kernel_rfl) ?_
                                            go_wp2_with fail
                                            go_roundw
                                            case rel => exact ⟨k + 1, by omega, by go_num, Lib.hid (bThen hBk.out T.out)⟩
                                            case measure => simp [intOf]; omega
                                        · have hltI : decide ((k : Int) < (m : Int)) = false := decide_eq_false (by omega)
                                          go_wp2_with fail
                                          go_meet
                                          case rel => exact Lib.hid (bThen HCR.out hBk.out)
                            · have hnxI : decide ((nd : Int) + 1 < (n : Int)) = false := decide_eq_false (by omega)
                              go_wp2_with fail
                              go_meet
                              case rel => exact Lib.hid (bSelf wR)
                        case rest =>
                          as_aux_lemma =>
                            obtain ⟨wV, hwV⟩ : ∃ wo, wo = wc := ⟨_, rfl⟩
                            subst hwV
                            have hb := hcut.out
                            replace K2 := Lib.hid (K2.out.to hb)
                            replace K15 := Lib.hid (K15.out.to hb)
                            replace HRM := Lib.hid (HRM.out.to hb)
                            replace HRL := Lib.hid (HRL.out.to hb)
                            replace HRU := Lib.hid (HRU.out.to hb)
                            replace HB := Lib.hid (bThen HB.out hb)
                            clear hb hcut HRL HRU K15 HUL
                            have HCO := Lib.hid (fun W (hb : Below w.heap.size w W) => CopyChain_own ks fs a1 a2 c1 c2 W (by rw [HKN.out]; omega) (by rw [HFN.out]; omega) (by rw [HKN.out]; exact HR1.out.to hb) (by rw [HFN.out]; exact HR2.out.to hb))
                            unfold COwn at HCO
                            rw [HKN.out, HFN.out] at HCO
                            obtain ⟨-, k2, -⟩ := K2.out
                            go_wp2_with fail
                            refine (HCO.out _ HB.out).mono ?_
                            rintro e wW ⟨y1, e1, y2, e2, rfl, -, ge, ho1, ⟨mid, hm1, hm2, ho2⟩, hb⟩
                            obtain ⟨g2, cur, rfl, hg2, hbk, hcr⟩ := ho2.at hn0
                            have HY1 : Hid (∀ b off, y1 = some ⟨b, off, none⟩ → b ≠ g2) := Lib.hid (fun b off e => by have := hm2 _ e; dsimp only at this; omega)
                            have HV2 : Hid (wV.heap.size ≤ g2) := Lib.hid (by omega)
                            have HG2 : Hid (g2 < wW.heap.size) := Lib.hid hbk.1
                            have HBK := Lib.hid hbk
                            have HCR := Lib.hid hcr
                            have HO1 := Lib.hid ho1.reads
                            have GE := Lib.hid ge
                            have HBV := Lib.hid hb
                            clear hb k2 K2 ge ho1 ho2 hm1 hm2 hg2 hbk hcr HCO HCC
                            go_upto_region 53 with (fail)
                            obtain ⟨wX, hw⟩ : ∃ W, wW.alloc (.cells (chV y1 n e1 (some ⟨g2, 0, none⟩) n e2) 73) = W := ⟨_, rfl⟩
                            rw [hw]
                            have hb : Below wW.heap.size wW wX := by subst hw; exact bAlloc (bSelf _) _
                            have K27 : Hid (Blk wX wW.heap.size (chV y1 n e1 (some ⟨g2, 0, none⟩) n e2)) := by subst hw; exact Lib.hid (Blk.new _ _ _)
                            have HBA : Hid (g2 ≠ wW.heap.size) := Lib.hid (by have := HG2.out; omega)
                            obtain ⟨B27, hB⟩ : ∃ B, wW.heap.size = B := ⟨_, rfl⟩
                            have HI0 : Hid (DblI ks fs n g2 B27 y1 e1 e2 wV 0 wX) := Lib.hid ⟨⟨cur, HBK.out.to hb, by rw [HFN.out]; exact HCR.out⟩, by rw [← hB]; exact K27.out, HO1.out.to hb, bThen HBV.out hb⟩
                            rw [hB] at HBA ⊢
                            have HS0 : Hid (∀ j, j < 0 → -1000 ≤ 2 * gi fs j ∧ 2 * gi fs j ≤ 1000) := Lib.hid (fun j hj => by omega)
                            clear hb hw hB HBK HCR HO1 HBV K27 HG2
                            go_wp2_with fail
                            go_loopw [28] (fun iv wr => ∃ k : Nat, k ≤ n ∧ iv = .int .i64 k ∧ Hid (∀ j, j < k → -1000 ≤ 2 * gi fs j ∧ 2 * gi fs j ≤ 1000) ∧ Hid (DblI ks fs n g2 B27 y1 e1 e2 wV k wr)) (fun iv _ => n - (intOf iv).toNat)
                            case atStart => exact ⟨0, Nat.zero_le _, rfl, HS0, HI0⟩
                            case round =>
                              obtain ⟨k, hk, rfl, HS, HI⟩ := hrel
                              clear HS0 HI0
                              by_cases hlt : k < n
                              · have hltI : decide ((k : Int) < (n : Int)) = true := decide_eq_true (by omega)
                                as_aux_lemma =>
                                  obtain ⟨hgs, hcell⟩ := HI.out.cell (by rw [HFN.out]; exact hk) (j := k) (by rw [HFN.out]; exact hlt)
                                  rw [if_neg (Nat.lt_irrefl k)] at hcell
                                  obtain ⟨f0, f1⟩ := HOK.out.f1 k (by rw [HKN.out]; exact hlt)
                                  obtain ⟨f, hf⟩ : ∃ f, gi fs k = f := ⟨_, rfl⟩
                                  rw [hf] at hcell f0 f1
                                  have HSZ := Lib.hid (fun W => Size_any (2 * f) W (by omega) (by omega))
                                  have HGS := Lib.hid hgs
                                  have KC := Lib.hid hcell
                                  have HF := Lib.hid hf
                                  clear hgs hcell hf
                                  obtain ⟨-, k27, -⟩ := HI.out.kb
                                  go_upto_region 56 with (fail)
                                  clear k27
                                  refine wp_region_treeT 9 (by kernel_rfl) (by kernel_rfl) (fun wd hwd => ?_)
                                  have T := Lib.hid hwd
                                  clear hwd
                                  refine WE_yes 0 rfl (by kernel_rfl) (fun _ _ _ _ _ h => h) (by rfl) ?_; apply Exists.intro; refine ⟨fun w1 hb1 => ?_, ?_⟩; (focus ((skip; have hb1 := Lib.hid hb1; go_simp); (try (go_bits; try go_simp)); (try (rw [if_pos (by omega)]; try go_simp)); (first | done | (fail) | (with_reducible rfl) | exact rfl)))
                                  simp only [Act.put, List.setIfInBounds_toArray, List.set_cons_zero, List.set_cons_succ]
                                  refine WE_yes 1 rfl (by kernel_rfl) (fun _ _ _ _ _ h => h) (by rfl) ?_; apply Exists.intro; refine ⟨fun w1 hb1 => ?_, ?_⟩; (focus (((obtain ⟨-, k27, -⟩ := HI.out.kb.to (T.out.trans hb1)); have hb1 := Lib.hid hb1; go_simp); (try (go_bits; try go_simp)); (try (rw [if_pos (by omega)]; try go_simp)); (first | done | (fail) | (with_reducible rfl) | exact rfl)))
                                  simp only [Act.put, List.setIfInBounds_toArray, List.set_cons_zero, List.set_cons_succ]
                                  refine WE_yes 2 rfl (by kernel_rfl) (fun _ _ _ _ _ h => h) (by rfl) ?_; apply Exists.intro; refine ⟨fun w1 hb1 => ?_, ?_⟩; (focus ((skip; have hb1 := Lib.hid hb1; go_simp); (try (go_bits; try go_simp)); (try (rw [if_pos (by omega)]; try go_simp)); (first | done | (fail) | (with_reducible rfl) | exact rfl)))
                                  simp only [Act.put, List.setIfInBounds_toArray, List.set_cons_zero, List.set_cons_succ]
                                  refine WE_yes 3 rfl (by kernel_rfl) (fun _ _ _ _ _ h => h) (by rfl) ?_; apply Exists.intro; refine ⟨fun w1 hb1 => ?_, ?_⟩; (focus ((skip; have hb1 := Lib.hid hb1; go_simp); (try (go_bits; try go_simp)); (try (rw [if_pos (by omega)]; try go_simp)); (first | done | (fail) | (with_reducible rfl) | exact rfl)))
                                  simp only [Act.put, List.setIfInBounds_toArray, List.set_cons_zero, List.set_cons_succ]
                                  refine WE_yes 4 rfl (by kernel_rfl) (fun _ _ _ _ _ h => h) (by rfl) ?_; apply Exists.intro; refine ⟨fun w1 hb1 => ?_, ?_⟩; (focus (((obtain ⟨-, k27, -⟩ := HI.out.kb.to (T.out.trans hb1)); have hb1 := Lib.hid hb1; go_simp); (try (go_bits; try go_simp)); (try (rw [if_pos (by omega)]; try go_simp)); (first | done | (fail) | (with_reducible rfl) | exact rfl)))
                                  simp only [Act.put, List.setIfInBounds_toArray, List.set_cons_zero, List.set_cons_succ]
                                  refine WE_yes 5 rfl (by kernel_rfl) (fun _ _ _ _ _ h => h) (by rfl) ?_; apply Exists.intro; refine ⟨fun w1 hb1 => ?_, ?_⟩; (focus ((skip; have hb1 := Lib.hid hb1; go_simp); (try (go_bits; try go_simp)); (try (rw [if_pos (by omega)]; try go_simp)); (first | done | (fail) | (with_reducible rfl) | exact rfl)))
                                  simp only [Act.put, List.setIfInBounds_toArray, List.set_cons_zero, List.set_cons_succ]
                                  refine WE_yes 6 rfl (by kernel_rfl) (fun _ _ _ _ _ h => h) (by rfl) ?_; apply Exists.intro; refine ⟨fun w1 hb1 => ?_, ?_⟩; (focus ((skip; have hb1 := Lib.hid hb1; go_simp); (try (go_bits; try go_simp)); (try (rw [if_pos (by omega)]; try go_simp)); (first | done | (fail) | (with_reducible rfl) | exact rfl)))
                                  simp only [Act.put, List.setIfInBounds_toArray, List.set_cons_zero, List.set_cons_succ]
                                  refine WE_yes 7 rfl (by kernel_rfl) (fun _ _ _ _ _ h => h) (by rfl) ?_; apply Exists.intro; refine ⟨fun w1 hb1 => ?_, ?_⟩; (focus (((have kc := ((T.out.trans hb1).cell (p := ⟨g2, k, none⟩) HGS.out).trans KC.out); have hb1 := Lib.hid hb1; go_simp); (try (go_bits; try go_simp)); (try (rw [if_pos (by omega)]; try go_simp)); (first | done | (fail) | (with_reducible rfl) | exact rfl)))
                                  simp only [Act.put, List.setIfInBounds_toArray, List.set_cons_zero, List.set_cons_succ]
                                  refine WE_yes 8 rfl (by kernel_rfl) (fun _ _ _ _ _ h => h) (by rfl) ?_; apply Exists.intro; refine ⟨fun w1 hb1 => ?_, ?_⟩; (focus ((skip; have hb1 := Lib.hid hb1; go_simp); (try (go_bits; try go_simp)); (try (rw [if_pos (by omega)]; try go_simp)); (first | done | (fail) | (with_reducible rfl) | exact rfl)))
                                  simp only [Act.put, List.setIfInBounds_toArray, List.set_cons_zero, List.set_cons_succ]
                                  refine WE_tail rfl (by kernel_rfl) ?_
                                  simp only [List.drop_succ_cons, List.drop_zero]
                                  have HID := Lib.hid (HI.out.to T.out)
                                  have hcl := ((T.out).cell (p := ⟨g2, k, none⟩) HGS.out).trans KC.out
                                  obtain ⟨curd, hkd⟩ := HID.out.frz
                                  obtain ⟨-, -, fz⟩ := hkd
                                  go_upto_region 57 with (fail)
                                  clear fz hcl
                                  have HN := HID.out.next (by rw [HFN.out]; exact hlt) HV2.out HBA.out HY1.out
                                  rw [HF.out] at HN
                                  obtain ⟨wY, hwY⟩ : ∃ W, wd.setCell ⟨g2, k, none⟩ (.int .i64 (2 * f)) = W := ⟨_, rfl⟩
                                  rw [hwY] at HN ⊢
                                  replace HN := Lib.hid HN
                                  clear hwY HID T
                                  obtain ⟨-, hc2⟩ := HN.out.cell (by rw [HFN.out]; omega) (j := k) (by rw [HFN.out]; exact hlt)
                                  rw [if_pos (Nat.lt_succ_self k), HF.out] at hc2
                                  obtain ⟨-, k27, -⟩ := HN.out.kb
                                  go_wp2_with fail
                                  refine (HSZ.out _).mono ?_
                                  rintro e w' ⟨rfl, rfl⟩
                                  have hsz : sizeI (2 * f) ≤ 1000 → -1000 ≤ 2 * f ∧ 2 * f ≤ 1000 := fun h => by unfold sizeI at h; omega
                                  have HSS := Lib.hid hsz
                                  obtain ⟨sz, hsz2⟩ : ∃ z, sizeI (2 * f) = z := ⟨_, rfl⟩
                                  rw [hsz2] at HSS ⊢
                                  clear hsz hsz2 hc2 k27 f0 f1
                                  by_cases hbig : 1000 < sz
                                  · have hbI : decide (1000 < sz) = true := decide_eq_true hbig
                                    go_wp2_with fail
                                    go_ret
                                    exact ⟨rfl, bThen HB.out HN.out.be⟩
                                  · have hbI : decide (1000 < sz) = false := decide_eq_false hbig
                                    go_wp2_with fail
                                    go_roundw
                                    case rel => exact ⟨k + 1, by omega, by go_num, Lib.hid (fun j hj => by
                                      by_cases e : j = k
                                      · subst e; rw [HF.out]; exact HSS.out (by omega)
                                      · exact HS.out j (by omega)), HN⟩
                                    case measure => simp [intOf]; omega
                              · have hltI : decide ((k : Int) < (n : Int)) = false := decide_eq_false (by omega)
                                as_aux_lemma =>
                                  obtain rfl : n = k := by omega
                                  have hok2 := ok_dbl HOK.out (by rw [HFN.out]; exact HS.out)
                                  have hg2 := dblL_all fs
                                  have hl2 := dblL_len fs n
                                  obtain ⟨cur, hbk, hcr⟩ := HI.out.row
                                  have hrf := Blk.row hbk hcr
                                  rw [HFN.out] at hok2 hg2 hrf hl2
                                  have hrk := HI.out.g1
                                  obtain ⟨f2, hf2⟩ : ∃ z, dblL fs n = z := ⟨_, rfl⟩
                                  rw [hf2] at hok2 hg2 hrf hl2
                                  have hch2 : (chkC ks f2).2 = 0 := chkC_of hok2 (by rw [HKN.out]; exact hn0)
                                  have HMD3 := Lib.hid (fun W y1 y2 e1 e2 (ge : f2.length ≤ e2) (g1 : Reads W y1 ks.length (ints ks)) (g2 : Reads W y2 f2.length (ints f2)) => MovedOf_u ks f2 y1 y2 e1 e2 W (by rw [HKN.out]; omega) ge g1 g2)
                                  unfold MUPost at HMD3
                                  rw [hl2, HKN.out] at HMD3
                                  obtain ⟨v3, z3, hv3, HZ3⟩ : ∃ v z, mvR ks f2 = (v, z) ∧ Hid ((z = 8 ∧ v = []) ∨ (z = 0 ∧ mvO ks f2 = some v)) := by
                                    unfold mvR
                                    rw [hch2, if_neg (fun h : (0 : Int) ≠ 0 => h rfl)]
                                    cases mvO ks f2 with
                                    | none => exact ⟨_, _, rfl, Lib.hid (.inl ⟨rfl, rfl⟩)⟩
                                    | some v => exact ⟨_, _, rfl, Lib.hid (.inr ⟨rfl, rfl⟩)⟩
                                  rw [hv3] at HMD3
                                  dsimp only at HMD3
                                  have HDX := Lib.hid (fun v (hv : mvO ks f2 = some v) => HDB.out f2 v hg2 (by rw [hl2, HFN.out]) (fun k hk => hok2.f1 k (by rw [HKN.out]; rw [hl2] at hk; exact hk)) hv)
                                  have G1 := Lib.hid hrk
                                  have G2 := Lib.hid hrf
                                  have KB := Lib.hid HI.out.kb
                                  have HBE := Lib.hid HI.out.be
                                  have hrm := HRM.out.to HI.out.be
                                  replace HRM := Lib.hid hrm
                                  replace HB := Lib.hid (bThen HB.out HI.out.be)
                                  clear hok2 hg2 hl2 hbk hcr hrf hrk hf2 hch2 hv3 HI HS hrm HBE HDB
                                  obtain ⟨-, k27, -⟩ := KB.out
                                  go_wp2_with fail
                                  refine (HMD3.out _ _ _ _ _ GE.out G1.out G2.out).mono ?_
                                  rintro e wZ ⟨aw, cw, rfl, hrw, hb⟩
                                  have HRW := Lib.hid hrw
                                  replace HRM := Lib.hid (HRM.out.to hb)
                                  replace HB := Lib.hid (bThen HB.out hb)
                                  clear hb k27 KB G1 G2 GE HMD3 hrw
                                  rcases HZ3.out with ⟨hz, hvv⟩ | ⟨hz, hmo3⟩
                                  · subst hz
                                    subst hvv
                                    go_wp2_with fail
                                    go_ret
                                    exact ⟨rfl, HB.out⟩
                                  · subst hz
                                    obtain ⟨hlw, hfw⟩ := HDX.out v3 hmo3
                                    rw [HLL.out] at hlw
                                    have HFW := Lib.hid (fun k (hk : k < n) => hfw k (by rw [HKN.out]; exact hk))
                                    rw [hlw] at HRW ⊢
                                    clear hlw hfw HDX HZ3 hmo3 hlt hltI
                                    go_wp2_with fail
                                    go_loopw [31] (fun iv wr => ∃ k : Nat, k ≤ n ∧ iv = .int .i64 k ∧ Hid (Below wZ.heap.size wZ wr)) (fun iv _ => n - (intOf iv).toNat)
                                    case atStart => exact ⟨0, Nat.zero_le _, rfl, Lib.hid (bSelf wZ)⟩
                                    case round =>
                                      obtain ⟨k, hk, rfl, hBk⟩ := hrel
                                      replace HRM := Lib.hid (HRM.out.to hBk.out)
                                      replace HRW := Lib.hid (HRW.out.to hBk.out)
                                      replace HB := Lib.hid (bThen HB.out hBk.out)
                                      by_cases hlt : k < n
                                      · have hltI : decide ((k : Int) < (n : Int)) = true := decide_eq_true (by omega)
                                        as_aux_lemma =>
                                          obtain ⟨bv, ov, rfl, hbv, hcv⟩ := HRW.out.at (k := k * 2) (by omega)
                                          obtain ⟨bm, om, rfl, hbm, hcm⟩ := HRM.out.at (k := k * 2) (by omega)
                                          have hfk := HFW.out k hlt
                                          obtain ⟨s0, s1, s2, s3⟩ := (HLS.out k hlt).2
                                          obtain ⟨n1, d1', hp1⟩ : ∃ a b, fg v3 k = (a, b) := ⟨_, _, rfl⟩
                                          obtain ⟨n2, d2', hp2⟩ : ∃ a b, fg l k = (a, b) := ⟨_, _, rfl⟩
                                          have KV : Hid (wr.cell? ⟨bv, ov + k * 2, none⟩ = some (.int .i64 n1) ∧ wr.cell? ⟨bv, ov + k * 2 + 1, none⟩ = some (.int .i64 d1')) := Lib.hid ⟨by rw [hcv _ (by omega), fracs0, hp1], by rw [Nat.add_assoc, hcv _ (by omega), fracs1, hp1]⟩
                                          have KM : Hid (wr.cell? ⟨bm, om + k * 2, none⟩ = some (.int .i64 n2) ∧ wr.cell? ⟨bm, om + k * 2 + 1, none⟩ = some (.int .i64 d2')) := Lib.hid ⟨by rw [hcm _ (by omega), fracs0, hp2], by rw [Nat.add_assoc, hcm _ (by omega), fracs1, hp2]⟩
                                          rw [hp1, hp2] at hfk
                                          rw [hp2] at s0 s1 s2 s3
                                          dsimp only at hfk s0 s1 s2 s3
                                          have HLW := Lib.hid (fun W => Lowest_any (2 * n2) d2' W (by omega) (by omega) (by omega))
                                          rw [← hfk] at HLW
                                          dsimp only at HLW
                                          have HVB := Lib.hid hbv
                                          have HMB := Lib.hid hbm
                                          clear hp1 hp2 hcv hcm hbv hbm hfk
                                          go_upto_region 67 with (fail)
                                          refine wp_region_tree (by kernel_rfl) (fun wd hwd => ?_)
                                          have T := Lib.hid hwd
                                          clear hwd
                                          refine WT_yes 0 rfl (by kernel_rfl) (fun _ _ _ _ _ h => h) (by rfl) ?_; apply Exists.intro; refine ⟨fun w1 hb1 => ?_, ?_⟩; (focus ((skip; have hb1 := Lib.hid hb1; go_simp); (try (go_bits; try go_simp)); (try (rw [if_pos (by omega)]; try go_simp)); (first | done | (fail) | (with_reducible rfl) | exact rfl)))
                                          simp only [Act.put, List.setIfInBounds_toArray, List.set_cons_zero, List.set_cons_succ]
                                          refine WT_yes 1 rfl (by kernel_rfl) (fun _ _ _ _ _ h => h) (by rfl) ?_; apply Exists.intro; refine ⟨fun w1 hb1 => ?_, ?_⟩; (focus ((skip; have hb1 := Lib.hid hb1; go_simp); (try (go_bits; try go_simp)); (try (rw [if_pos (by omega)]; try go_simp)); (first | done | (fail) | (with_reducible rfl) | exact rfl)))
                                          simp only [Act.put, List.setIfInBounds_toArray, List.set_cons_zero, List.set_cons_succ]
                                          refine WT_yes 2 rfl (by kernel_rfl) (fun _ _ _ _ _ h => h) (by rfl) ?_; apply Exists.intro; refine ⟨fun w1 hb1 => ?_, ?_⟩; (focus ((skip; have hb1 := Lib.hid hb1; go_simp); (try (go_bits; try go_simp)); (try (rw [if_pos (by omega)]; try go_simp)); (first | done | (fail) | (with_reducible rfl) | exact rfl)))
                                          simp only [Act.put, List.setIfInBounds_toArray, List.set_cons_zero, List.set_cons_succ]
                                          refine WT_yes 3 rfl (by kernel_rfl) (fun _ _ _ _ _ h => h) (by rfl) ?_; apply Exists.intro; refine ⟨fun w1 hb1 => ?_, ?_⟩; (focus (((have kc0 := ((T.out.trans hb1).cell (p := ⟨bv, ov + k * 2, none⟩) HVB.out).trans KV.out.1; have kc1 := ((T.out.trans hb1).cell (p := ⟨bv, ov + k * 2 + 1, none⟩) HVB.out).trans KV.out.2); have hb1 := Lib.hid hb1; go_simp); (try (go_bits; try go_simp)); (try (rw [if_pos (by omega)]; try go_simp)); (first | done | (fail) | (with_reducible rfl) | exact rfl)))
                                          simp only [Act.put, List.setIfInBounds_toArray, List.set_cons_zero, List.set_cons_succ]
                                          refine WT_yes 4 rfl (by kernel_rfl) (fun _ _ _ _ _ h => h) (by rfl) ?_; apply Exists.intro; refine ⟨fun w1 hb1 => ?_, ?_⟩; (focus ((skip; have hb1 := Lib.hid hb1; go_simp); (try (go_bits; try go_simp)); (try (rw [if_pos (by omega)]; try go_simp)); (first | done | (fail) | (with_reducible rfl) | exact rfl)))
                                          simp only [Act.put, List.setIfInBounds_toArray, List.set_cons_zero, List.set_cons_succ]
                                          refine WT_yes 5 rfl (by kernel_rfl) (fun _ _ _ _ _ h => h) (by rfl) ?_; apply Exists.intro; refine ⟨fun w1 hb1 => ?_, ?_⟩; (focus ((skip; have hb1 := Lib.hid hb1; go_simp); (try (go_bits; try go_simp)); (try (rw [if_pos (by omega)]; try go_simp)); (first | done | (fail) | (with_reducible rfl) | exact rfl)))
                                          simp only [Act.put, List.setIfInBounds_toArray, List.set_cons_zero, List.set_cons_succ]
                                          refine WT_yes 6 rfl (by kernel_rfl) (fun _ _ _ _ _ h => h) (by rfl) ?_; apply Exists.intro; refine ⟨fun w1 hb1 => ?_, ?_⟩; (focus ((skip; have hb1 := Lib.hid hb1; go_simp); (try (go_bits; try go_simp)); (try (rw [if_pos (by omega)]; try go_simp)); (first | done | (fail) | (with_reducible rfl) | exact rfl)))
                                          simp only [Act.put, List.setIfInBounds_toArray, List.set_cons_zero, List.set_cons_succ]
                                          refine WT_yes 7 rfl (by kernel_rfl) (fun _ _ _ _ _ h => h) (by rfl) ?_; apply Exists.intro; refine ⟨fun w1 hb1 => ?_, ?_⟩; (focus ((skip; have hb1 := Lib.hid hb1; go_simp); (try (go_bits; try go_simp)); (try (rw [if_pos (by omega)]; try go_simp)); (first | done | (fail) | (with_reducible rfl) | exact rfl)))
                                          simp only [Act.put, List.setIfInBounds_toArray, List.set_cons_zero, List.set_cons_succ]
                                          refine WT_yes 8 rfl (by kernel_rfl) (fun _ _ _ _ _ h => h) (by rfl) ?_; apply Exists.intro; refine ⟨fun w1 hb1 => ?_, ?_⟩; (focus (((have kc0 := ((T.out.trans hb1).cell (p := ⟨bm, om + k * 2, none⟩) HMB.out).trans KM.out.1); have hb1 := Lib.hid hb1; go_simp); (try (go_bits; try go_simp)); (try (rw [if_pos (by omega)]; try go_simp)); (first | done | (fail) | (with_reducible rfl) | exact rfl)))
                                          simp only [Act.put, List.setIfInBounds_toArray, List.set_cons_zero, List.set_cons_succ]
                                          refine WT_yes 9 rfl (by kernel_rfl) (fun _ _ _ _ _ h => h) (by rfl) ?_; apply Exists.intro; refine ⟨fun w1 hb1 => ?_, ?_⟩; (focus ((skip; have hb1 := Lib.hid hb1; go_simp); (try (go_bits; try go_simp)); (try (rw [if_pos (by omega)]; try go_simp)); (first | done | (fail) | (with_reducible rfl) | exact rfl)))
                                          simp only [Act.put, List.setIfInBounds_toArray, List.set_cons_zero, List.set_cons_succ]
                                          refine WT_yes 10 rfl (by kernel_rfl) (fun _ _ _ _ _ h => h) (by rfl) ?_; apply Exists.intro; refine ⟨fun w1 hb1 => ?_, ?_⟩; (focus ((skip; have hb1 := Lib.hid hb1; go_simp); (try (go_bits; try go_simp)); (try (rw [if_pos (by omega)]; try go_simp)); (first | done | (fail) | (with_reducible rfl) | exact rfl)))
                                          simp only [Act.put, List.setIfInBounds_toArray, List.set_cons_zero, List.set_cons_succ]
                                          refine WT_yes 11 rfl (by kernel_rfl) (fun _ _ _ _ _ h => h) (by rfl) ?_; apply Exists.intro; refine ⟨fun w1 hb1 => ?_, ?_⟩; (focus ((skip; have hb1 := Lib.hid hb1; go_simp); (try (go_bits; try go_simp)); (try (rw [if_pos (by omega)]; try go_simp)); (first | done | (fail) | (with_reducible rfl) | exact rfl)))
                                          simp only [Act.put, List.setIfInBounds_toArray, List.set_cons_zero, List.set_cons_succ]
                                          refine WT_yes 12 rfl (by kernel_rfl) (fun _ _ _ _ _ h => h) (by rfl) ?_; apply Exists.intro; refine ⟨fun w1 hb1 => ?_, ?_⟩; (focus ((skip; have hb1 := Lib.hid hb1; go_simp); (try (go_bits; try go_simp)); (try (rw [if_pos (by omega)]; try go_simp)); (first | done | (fail) | (with_reducible rfl) | exact rfl)))
                                          simp only [Act.put, List.setIfInBounds_toArray, List.set_cons_zero, List.set_cons_succ]
                                          refine WT_yes 13 rfl (by kernel_rfl) (fun _ _ _ _ _ h => h) (by rfl) ?_; apply Exists.intro; refine ⟨fun w1 hb1 => ?_, ?_⟩; (focus ((skip; have hb1 := Lib.hid hb1; go_simp); (try (go_bits; try go_simp)); (try (rw [if_pos (by omega)]; try go_simp)); (first | done | (fail) | (with_reducible rfl) | exact rfl)))
                                          simp only [Act.put, List.setIfInBounds_toArray, List.set_cons_zero, List.set_cons_succ]
                                          refine WT_yes 14 rfl (by kernel_rfl) (fun _ _ _ _ _ h => h) (by rfl) ?_; apply Exists.intro; refine ⟨fun w1 hb1 => ?_, ?_⟩; (focus (((have kc0 := ((T.out.trans hb1).cell (p := ⟨bm, om + k * 2 + 1, none⟩) HMB.out).trans KM.out.2); have hb1 := Lib.hid hb1; go_simp); (try (go_bits; try go_simp)); (try (rw [if_pos (by omega)]; try go_simp)); (first | done | (fail) | (with_reducible rfl) | exact rfl)))
                                          simp only [Act.put, List.setIfInBounds_toArray, List.set_cons_zero, List.set_cons_succ]
                                          refine WT_one 15 rfl (by kernel_rfl) ?_
                                          unfold stepT
                                          go_wp2_with fail
                                          refine (HLW.out _).mono ?_
                                          rintro e wy5 ⟨rfl, hb⟩
                                          have hbd := Lib.hid (hb.mono T.out.size)
                                          replace T := Lib.hid (T.out.trans hbd.out)
                                          clear hb
                                          go_wp2_with fail
                                          refine ⟨hbd.out, ?_⟩
                                          clear hbd
                                          refine WT_yes 16 rfl (by kernel_rfl) (fun _ _ _ _ _ h => h) (by rfl) ?_; apply Exists.intro; refine ⟨fun w1 hb1 => ?_, ?_⟩; (focus ((skip; have hb1 := Lib.hid hb1; go_simp); (try (go_bits; try go_simp)); (try (rw [if_pos (by omega)]; try go_simp)); (first | done | (fail) | (with_reducible rfl) | exact rfl)))
                                          simp only [Act.put, List.setIfInBounds_toArray, List.set_cons_zero, List.set_cons_succ]
                                          refine WT_done (by kernel_rfl) ?_
                                          go_wp2_with fail
                                          go_roundw
                                          case rel => exact ⟨k + 1, by omega, by go_num, Lib.hid (bThen hBk.out T.out)⟩
                                          case measure => simp [intOf]; omega
                                      · have hltI : decide ((k : Int) < (n : Int)) = false := decide_eq_false (by omega)
                                        go_wp2_with fail
                                        go_ret
                                        exact ⟨rfl, HB.out⟩

end Go.Proofs.Ytjieojkfpoiabaa

