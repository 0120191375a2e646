/-
  Texts of this claim, in their build order: OR7 OR16 OR3 OR15 OR8 OR17 OW7 OL7.
-/
import Derived.Test.YtjfedpblkejmkaaGreatVal46
import Derived.Test.YtjfedpblkejmkaaGreatVal17
import Derived.Test.YtjfedpblkejmkaaGreatVal18
import Derived.Test.YtjfedpblkejmkaaGreatVal47
import Derived.Test.YtjfedpblkejmkaaGreatVal22
import Derived.Test.YtjfedpblkejmkaaGreatVal14
import Derived.Test.YtjfedpblkejmkaaGreatVal24
import Derived.Test.YtjfedpblkejmkaaGreatVal45
import Derived.Test.YtjfedpblkejmkaaGreatVal41

/-
  The reference's pressures: line, Pressure.
-/
namespace Go.Proofs.YtjfedpblkejmkaaGreat
open Go.RowKit
attribute [local go_sem] Oper.semAt_some

theorem dg_few {n : Int} (h1 : -1000000000000 ≤ n) (h2 : n ≤ 1000000000000) : (dg n).length ≤ 20 := Nat.le_trans (dg_small 3 (Nat.lt_of_lt_of_le (show n.natAbs < 1000000000000000000 by omega) (by decide))) (by decide)
theorem RR.st4 {W : World} {a1 a2 : Option Addr} {v : Value} {q : Int × Int} {b : Nat} (h : RR W a1 a2 v q) (hl : Loc (fun c => c ≠ b) a1 q.1 ∧ Loc (fun c => c ≠ b) a2 q.2) (x0 x1 x2 x3 : Value) : RR (Go.Proofs.YtjfedpblkejmkaaGreat.st4 W b x0 x1 x2 x3) a1 a2 v q :=
  (((h.set1 hl.1 hl.2 x0).set1 hl.1 hl.2 x1).set1 hl.1 hl.2 x2).set1 hl.1 hl.2 x3
set_option maxHeartbeats 3200000 in
set_option maxRecDepth 100000 in
theorem rLine_any (x y u v at' : Int) (w : World) (hx : -100000 ≤ x ∧ x ≤ 100000) (hy : -100000 ≤ y ∧ y ≤ 100000) (hu : u ≤ 100000) (hv : -100000 ≤ v ∧ v ≤ 100000) (ha : -100000 ≤ at' ∧ at' ≤ 100000) (hxu : x < u) :
    Calls Tryz.prog 139 #[.int .i64 x, .int .i64 y, .int .i64 u, .int .i64 v, .int .i64 at'] w fun e w1 => RPost [] (rAdd (y, 1) (fr ((v - y) * (at' - x)) (u - x))) w e w1 := by
  obtain ⟨x1, x2⟩ := hx
  obtain ⟨y1, y2⟩ := hy
  obtain ⟨v1, v2⟩ := hv
  obtain ⟨a1, a2⟩ := ha
  have pm := mul_bd (a := v - y) (b := at' - x) (A := 200000) (B := 200000) (by omega) (by omega) (by omega) (by omega)
  obtain ⟨pm1, pm2⟩ := pm
  have HI := Lib.hid (fun W => RatioInt_any y W (by omega) (by omega))
  have HF := Lib.hid (fun W => RatioOf_any ((v - y) * (at' - x)) (u - x) W (by omega) (by omega) (by omega) (by omega))
  have HA := Lib.hid (fun W c1 c2 d1 d2 z1 z2 h1 h2 => RatioAdd_any (y, 1) (fr ((v - y) * (at' - x)) (u - x)) c1 c2 d1 d2 z1 z2 W h1 h2 (dg_few (by dsimp only; omega) (by dsimp only; omega)) (dg_few (by dsimp only; omega) (by dsimp only; omega)) (dg_fr1 (dg_few (by omega) (by omega))) (dg_fr2 (dg_few (by omega) (by omega))) (by dsimp only; omega) (fr_pos (by omega)))
  obtain ⟨q, hq⟩ : ∃ q, rAdd (y, 1) (fr ((v - y) * (at' - x)) (u - x)) = q := ⟨_, rfl⟩
  rw [hq] at HA ⊢
  obtain ⟨f, hf⟩ : ∃ f, fr ((v - y) * (at' - x)) (u - x) = f := ⟨_, rfl⟩
  rw [hf] at HA HF
  clear hq hf
  go_enter Tryz.func139, Tryz.ntmps139
  go_wp2_with fail
  obtain ⟨W, hW⟩ : ∃ W, w.alloc (.cells #[.int .i64 0, .slice none 0 0, .int .i64 0, .slice none 0 0] 112) = W := ⟨_, rfl⟩
  rw [hW]
  have K : Hid (Blk W w.heap.size #[.int .i64 0, .slice none 0 0, .int .i64 0, .slice none 0 0]) := by subst hW; exact Lib.hid (Blk.new _ _ _)
  have HB : Hid (Below w.heap.size w W) := by subst hW; exact Lib.hid (bAlloc (bSelf w) _)
  clear hW
  refine (HI.out _).mono ?_
  rintro e w1 ⟨c1, c2, z1, rfl, hr1, hb, -⟩
  have HR1 := Lib.hid hr1
  replace K := Lib.hid (K.out.to hb)
  replace HB := Lib.hid (bThen HB.out hb)
  obtain ⟨s1, n1, k1, t1, m1, l1, rfl, -, -⟩ := hr1.ex
  clear hb hr1
  go_wp2_with fail
  refine (HF.out _).mono ?_
  rintro e w2 ⟨d1, d2, z2, rfl, hr2, hb, -⟩
  have HR2 := Lib.hid hr2
  replace HR1 := Lib.hid (HR1.out.to hb)
  replace K := Lib.hid (K.out.to hb)
  replace HB := Lib.hid (bThen HB.out hb)
  obtain ⟨s2, n2, k2, t2, m2, l2, rfl, -, -⟩ := hr2.ex
  clear hb hr2
  go_wp2_with fail
  refine (HA.out _ _ _ _ _ _ _ HR1.out HR2.out).mono ?_
  rintro e w3 ⟨g1, g2, z3, rfl, hr3, hb, hloc⟩
  have HR3 := Lib.hid hr3
  have HL := Lib.hid (fun (P : Nat → Prop) (h : ∀ b, w2.heap.size ≤ b → P b) => hloc P h (fun i hi => by cases hi))
  have HLB := Lib.hid (HL.out (fun c => c ≠ w.heap.size) (fun b hb => by have := K.out.1; omega))
  have HSZ : Hid (w.heap.size ≤ w2.heap.size) := Lib.hid HB.out.size
  replace K := Lib.hid (K.out.to hb)
  replace HB := Lib.hid (bThen HB.out hb)
  obtain ⟨s3, n3, k3, t3, m3, l3, rfl, -, -⟩ := hr3.ex
  clear hb hr3 hloc HR1 HR2
  obtain ⟨-, k, f'⟩ := K.out
  go_wp2_with fail
  clear k f'
  have F := (K.out.st4 (.int .i64 s3) (.slice g1 n3 k3) (.int .i64 t3) (.slice g2 m3 l3)).2.1
  have F0 := F 0; have F1 := F 1; have F2 := F 2; have F3 := F 3
  unfold st4 at F0 F1 F2 F3
  clear F
  have HP : Hid (RPost [] q w (.returned (.agg #[.int .i64 s3, .slice g1 n3 k3, .int .i64 t3, .slice g2 m3 l3])) (st4 w3 w.heap.size (.int .i64 s3) (.slice g1 n3 k3) (.int .i64 t3) (.slice g2 m3 l3))) := Lib.hid
    ⟨g1, g2, _, rfl, HR3.out.st4 HLB.out _ _ _ _, HB.out.trans (below_st4 w3 (Nat.le_refl _) _ _ _ _), fun P hf _ => HL.out P (fun b hb => hf b (by have := HSZ.out; omega))⟩
  refine bodyPost_ret (v := .agg #[.int .i64 s3, .slice g1 n3 k3, .int .i64 t3, .slice g2 m3 l3]) ?_ rfl HP.out
  simp [results, Tryz.results139, go_sem, F0, F1, F2, F3]

end Go.Proofs.YtjfedpblkejmkaaGreat

/-
  The reference: what a valve gives at a drop.
-/
namespace Go.Proofs.YtjfedpblkejmkaaGreat
open Go.RowKit
attribute [local go_sem] Oper.semAt_some

set_option maxHeartbeats 6400000 in
set_option maxRecDepth 100000 in
theorem rFlowLo_any (l : List (Int × Int × Int)) (v : Int) (a : Option Addr) (cap : Nat) (w : World) (hvl : VlvOk l) (hv : -100000 ≤ v ∧ v ≤ 100000) (hr : Reads w a (l.length * 3) (flws l)) :
    Calls Tryz.prog 120 #[.slice a l.length cap, .int .i64 v, .bool false] w fun e w1 => RPost [] (rPr (lowV l) v) w e w1 := by
  have HR := Lib.hid hr
  have hp : LinOk (lowV l) := hvl.lo
  have hll := low_len l
  have HPR : Hid (rPr (lowV l) v = if rPrI (lowV l) v < (lowV l).length then rSeg (fg (lowV l) (rPrI (lowV l) v - 1)) (fg (lowV l) (rPrI (lowV l) v)) v else (0, 1)) := Lib.hid rfl
  have HPI : Hid (rPrI (lowV l) v = ixF (fun j => decide (v ≤ (fg (lowV l) j).1)) 1 ((lowV l).length - 1)) := Lib.hid rfl
  have HLI := Lib.hid (fun W (k : Nat) (h1 : 1 ≤ k) (h2 : k < (lowV l).length) => rLine_any (fg (lowV l) (k - 1)).1 (fg (lowV l) (k - 1)).2 (fg (lowV l) k).1 (fg (lowV l) k).2 v W (by have := hp.vol (k - 1) (by omega); omega) (by have := hp.prs (k - 1) (by omega); omega) (by have := hp.vol k h2; omega) (by have := hp.prs k h2; omega) hv (by have := (hp.up (k - 1) (by omega)).1; rwa [Nat.sub_add_cancel h1] at this))
  have HRI := Lib.hid (fun W => RatioInt_any 0 W (by decide) (by decide))
  obtain ⟨q, hq⟩ : ∃ q, rPr (lowV l) v = q := ⟨_, rfl⟩
  obtain ⟨pi, hpi⟩ : ∃ i, rPrI (lowV l) v = i := ⟨_, rfl⟩
  rw [hq] at HPR ⊢
  rw [hpi] at HPR HPI
  have h2 := hp.two
  have h8 := hp.few
  obtain ⟨n, hn⟩ : ∃ n, l.length = n := ⟨_, rfl⟩
  rw [hll] at HPR HPI HLI h2 h8
  have HN := Lib.hid hn
  rw [hn] at HR HPR HPI HLI h2 h8 ⊢
  clear hr hq hpi hn hp hll hvl
  go_enter Tryz.func120, Tryz.ntmps120
  go_wp2_with fail
  obtain ⟨W, hW⟩ : ∃ W, w.alloc (.cells #[.int .i64 0, .slice none 0 0, .int .i64 0, .slice none 0 0] 112) = W := ⟨_, rfl⟩
  rw [hW]
  have K : Hid (Blk W (w.heap.size) #[.int .i64 0, .slice none 0 0, .int .i64 0, .slice none 0 0]) := by subst hW; exact Lib.hid (Blk.new _ _ _)
  have HB : Hid (Below w.heap.size w W) := by subst hW; exact Lib.hid (bAlloc (bSelf w) _)
  replace HR := Lib.hid (HR.out.to HB.out)
  clear hW
  go_loopw [7] (fun s6 wr => ∃ k : Nat, 1 ≤ k ∧ k ≤ n ∧ s6 = .int .i64 k ∧ Hid (pi = ixF (fun j => decide (v ≤ (fg (lowV l) j).1)) k (n - k)) ∧ W = wr) (fun s6 _ => n - (intOf s6).toNat)
  case atStart => exact ⟨1, Nat.le_refl _, by omega, rfl, HPI, rfl⟩
  case round =>
    obtain ⟨k, hk1, hk, rfl, hee, rfl⟩ := hrel
    by_cases hlt : k < n
    · obtain ⟨b, off', rfl, hb, hc⟩ := HR.out.at (k := k * 3) (by omega)
      have HBL : Hid (b < W.heap.size) := Lib.hid hb
      obtain ⟨⟨x1, y1⟩, hx1⟩ : ∃ x, fg (lowV l) k = x := ⟨_, rfl⟩
      obtain ⟨⟨x0, y0⟩, hx0⟩ : ∃ x, fg (lowV l) (k - 1) = x := ⟨_, rfl⟩
      obtain ⟨j, hj⟩ : ∃ j, k - 1 = j := ⟨_, rfl⟩
      have hv1 : (vg l k).1 = x1 ∧ (vg l k).2.1 = y1 := by rw [fg_low] at hx1; exact ⟨congrArg Prod.fst hx1, congrArg Prod.snd hx1⟩
      have hv0 : (vg l j).1 = x0 ∧ (vg l j).2.1 = y0 := by rw [hj, fg_low] at hx0; exact ⟨congrArg Prod.fst hx0, congrArg Prod.snd hx0⟩
      have C0 : Hid (W.cell? ⟨b, off' + k * 3, none⟩ = some (.int .i64 x1)) := Lib.hid (by have := hc (k * 3) (by omega); rw [flws0, hv1.1] at this; exact this)
      have C1 : Hid (W.cell? ⟨b, off' + k * 3 + 1, none⟩ = some (.int .i64 y1)) := Lib.hid (by have := hc (k * 3 + 1) (by omega); rw [flws1, hv1.2] at this; exact this)
      have D0 : Hid (W.cell? ⟨b, off' + j * 3, none⟩ = some (.int .i64 x0)) := Lib.hid (by have := hc (j * 3) (by omega); rw [flws0, hv0.1] at this; exact this)
      have D1 : Hid (W.cell? ⟨b, off' + j * 3 + 1, none⟩ = some (.int .i64 y0)) := Lib.hid (by have := hc (j * 3 + 1) (by omega); rw [flws1, hv0.2] at this; exact this)
      have HLK := Lib.hid (fun W' => HLI.out W' k hk1 hlt)
      rw [hx1, hx0] at HLK
      dsimp only at HLK
      have hkn : (k : Int) < (n : Int) := by omega
      have hjn : (j : Int) < (n : Int) := by omega
      have hkj : (k : Int) - 1 = (j : Int) := by omega
      have c0 := C0.out
      cases g : decide (v ≤ x1) with
      | false =>
        have HS := Lib.hid (ixF_step (p := fun j => decide (v ≤ (fg (lowV l) j).1)) hlt (by rw [hx1]; exact g))
        clear hx1 hx0 hj hc hv1 hv0 hb hkj hjn
        go_wp2_with fail
        go_roundw
        case rel => exact ⟨k + 1, by omega, by omega, by go_num, Lib.hid (hee.out.trans HS.out), trivial⟩
        case measure => simp [intOf]; omega
      | true =>
        have HS := Lib.hid (ixF_stop (p := fun j => decide (v ≤ (fg (lowV l) j).1)) hlt (by rw [hx1]; exact g))
        have HQ : Hid (q = rAdd (y0, 1) (fr ((y1 - y0) * (v - x0)) (x1 - x0))) := Lib.hid (by
          rw [HPR.out, hee.out, HS.out, if_pos hlt, hx1, hx0]; rfl)
        rw [← HQ.out] at HLK
        clear hx1 hx0 hj hc hv1 hv0 hb
        go_upto_region 7 with (fail)
        clear c0
        refine wp_region_quiet_tail 23 (fun w' => Below (World.heap W).size (W) w') (by kernel_rfl) (by kernel_rfl) (Below.refl _ _).drew ?_
        simp only [List.take_succ_cons, List.take_zero, List.drop_succ_cons, List.drop_zero]
        refine WQ.out ?_
        repeat (first | (refine WQ_no (by rfl) ?_; (simp only [Act.put, List.setIfInBounds_toArray, List.set_cons_zero, List.set_cons_succ])) | (refine WQ_yes (by rfl) ?_; apply Exists.intro; refine ⟨fun w1 hb1 => ?_, ?_⟩; (focus (((have c0 := (hb1.cell (p := ⟨b, off' + k * 3, none⟩) HBL.out).trans C0.out; have c1 := (hb1.cell (p := ⟨b, off' + k * 3 + 1, none⟩) HBL.out).trans C1.out; have d0 := (hb1.cell (p := ⟨b, off' + j * 3, none⟩) HBL.out).trans D0.out; have d1 := (hb1.cell (p := ⟨b, off' + j * 3 + 1, none⟩) HBL.out).trans D1.out); have hb1 := Lib.hid hb1; go_simp); (try (go_bits; try go_simp)); (try (rw [if_pos (by omega)]; try go_simp)); (first | done | (fail) | (with_reducible rfl) | exact rfl))); (simp only [Act.put, List.setIfInBounds_toArray, List.set_cons_zero, List.set_cons_succ])))
        refine WQ_nil ?_
        intro w1 hb1
        go_wp2_with fail
        replace K := Lib.hid (K.out.to hb1)
        replace HB := Lib.hid (bThen HB.out hb1)
        clear HRI HR C0 C1 D0 D1 HQ HS
        refine (HLK.out _).mono ?_
        rintro e w3 ⟨g1, g2, z3, rfl, hr3, hb, hloc⟩
        have HR3 := Lib.hid hr3
        have HL := Lib.hid (fun (P : Nat → Prop) (h : ∀ b, w1.heap.size ≤ b → P b) => hloc P h (fun i hi => by cases hi))
        have HLB := Lib.hid (HL.out (fun c => c ≠ w.heap.size) (fun b hb => by have := K.out.1; omega))
        have HSZ : Hid (w.heap.size ≤ w1.heap.size) := Lib.hid HB.out.size
        replace K := Lib.hid (K.out.to hb)
        replace HB := Lib.hid (bThen HB.out hb)
        obtain ⟨s3, n3, k3, t3, m3, l3, rfl, -, -⟩ := hr3.ex
        clear hb hr3 hloc
        obtain ⟨-, kk, f'⟩ := K.out
        go_wp2_with fail
        clear kk f'
        have F := (K.out.st4 (.int .i64 s3) (.slice g1 n3 k3) (.int .i64 t3) (.slice g2 m3 l3)).2.1
        have F0 := F 0; have F1 := F 1; have F2 := F 2; have F3 := F 3
        unfold st4 at F0 F1 F2 F3
        clear F
        have HP : Hid (RPost [] q w (.returned (.agg #[.int .i64 s3, .slice g1 n3 k3, .int .i64 t3, .slice g2 m3 l3])) (st4 w3 (w.heap.size) (.int .i64 s3) (.slice g1 n3 k3) (.int .i64 t3) (.slice g2 m3 l3))) := Lib.hid
          ⟨g1, g2, _, rfl, HR3.out.st4 HLB.out _ _ _ _, HB.out.trans (below_st4 w3 (Nat.le_refl _) _ _ _ _), fun P hf _ => HL.out P (fun b hb => hf b (by have := HSZ.out; omega))⟩
        refine bodyPost_ret (v := .agg #[.int .i64 s3, .slice g1 n3 k3, .int .i64 t3, .slice g2 m3 l3]) ?_ rfl HP.out
        simp [results, Tryz.results120, go_sem, F0, F1, F2, F3]
    · obtain rfl : k = n := by omega
      have HQ : Hid (q = (0, 1)) := Lib.hid (by
        have hpi : pi = k := by
          rw [hee.out, Nat.sub_self]; rfl
        rw [HPR.out, hpi, if_neg (Nat.lt_irrefl _)])
      rw [← HQ.out] at HRI
      clear HR HLI HPR HPI hee
      go_wp2_with fail
      refine (HRI.out _).mono ?_
      rintro e w3 ⟨g1, g2, z3, rfl, hr3, hb, hloc⟩
      have HR3 := Lib.hid hr3
      have HL := Lib.hid (fun (P : Nat → Prop) (h : ∀ b, W.heap.size ≤ b → P b) => hloc P h (fun i hi => by cases hi))
      have HLB := Lib.hid (HL.out (fun c => c ≠ w.heap.size) (fun b hb => by have := K.out.1; omega))
      have HSZ : Hid (w.heap.size ≤ W.heap.size) := Lib.hid HB.out.size
      replace K := Lib.hid (K.out.to hb)
      replace HB := Lib.hid (bThen HB.out hb)
      obtain ⟨s3, n3, k3, t3, m3, l3, rfl, -, -⟩ := hr3.ex
      clear hb hr3 hloc
      obtain ⟨-, kk, f'⟩ := K.out
      go_wp2_with fail
      clear kk f'
      have F := (K.out.st4 (.int .i64 s3) (.slice g1 n3 k3) (.int .i64 t3) (.slice g2 m3 l3)).2.1
      have F0 := F 0; have F1 := F 1; have F2 := F 2; have F3 := F 3
      unfold st4 at F0 F1 F2 F3
      clear F
      have HP : Hid (RPost [] q w (.returned (.agg #[.int .i64 s3, .slice g1 n3 k3, .int .i64 t3, .slice g2 m3 l3])) (st4 w3 (w.heap.size) (.int .i64 s3) (.slice g1 n3 k3) (.int .i64 t3) (.slice g2 m3 l3))) := Lib.hid
        ⟨g1, g2, _, rfl, HR3.out.st4 HLB.out _ _ _ _, HB.out.trans (below_st4 w3 (Nat.le_refl _) _ _ _ _), fun P hf _ => HL.out P (fun b hb => hf b (by have := HSZ.out; omega))⟩
      refine bodyPost_ret (v := .agg #[.int .i64 s3, .slice g1 n3 k3, .int .i64 t3, .slice g2 m3 l3]) ?_ rfl HP.out
      simp [results, Tryz.results120, go_sem, F0, F1, F2, F3]

set_option maxHeartbeats 6400000 in
set_option maxRecDepth 100000 in
theorem rFlowHi_any (l : List (Int × Int × Int)) (v : Int) (a : Option Addr) (cap : Nat) (w : World) (hvl : VlvOk l) (hv : -100000 ≤ v ∧ v ≤ 100000) (hr : Reads w a (l.length * 3) (flws l)) :
    Calls Tryz.prog 120 #[.slice a l.length cap, .int .i64 v, .bool true] w fun e w1 => RPost [] (rPr (uppV l) v) w e w1 := by
  have HR := Lib.hid hr
  have hp : LinOk (uppV l) := hvl.hi
  have hll := upp_len l
  have HPR : Hid (rPr (uppV l) v = if rPrI (uppV l) v < (uppV l).length then rSeg (fg (uppV l) (rPrI (uppV l) v - 1)) (fg (uppV l) (rPrI (uppV l) v)) v else (0, 1)) := Lib.hid rfl
  have HPI : Hid (rPrI (uppV l) v = ixF (fun j => decide (v ≤ (fg (uppV l) j).1)) 1 ((uppV l).length - 1)) := Lib.hid rfl
  have HLI := Lib.hid (fun W (k : Nat) (h1 : 1 ≤ k) (h2 : k < (uppV l).length) => rLine_any (fg (uppV l) (k - 1)).1 (fg (uppV l) (k - 1)).2 (fg (uppV l) k).1 (fg (uppV l) k).2 v W (by have := hp.vol (k - 1) (by omega); omega) (by have := hp.prs (k - 1) (by omega); omega) (by have := hp.vol k h2; omega) (by have := hp.prs k h2; omega) hv (by have := (hp.up (k - 1) (by omega)).1; rwa [Nat.sub_add_cancel h1] at this))
  have HRI := Lib.hid (fun W => RatioInt_any 0 W (by decide) (by decide))
  obtain ⟨q, hq⟩ : ∃ q, rPr (uppV l) v = q := ⟨_, rfl⟩
  obtain ⟨pi, hpi⟩ : ∃ i, rPrI (uppV l) v = i := ⟨_, rfl⟩
  rw [hq] at HPR ⊢
  rw [hpi] at HPR HPI
  have h2 := hp.two
  have h8 := hp.few
  obtain ⟨n, hn⟩ : ∃ n, l.length = n := ⟨_, rfl⟩
  rw [hll] at HPR HPI HLI h2 h8
  have HN := Lib.hid hn
  rw [hn] at HR HPR HPI HLI h2 h8 ⊢
  clear hr hq hpi hn hp hll hvl
  go_enter Tryz.func120, Tryz.ntmps120
  go_wp2_with fail
  obtain ⟨W, hW⟩ : ∃ W, w.alloc (.cells #[.int .i64 0, .slice none 0 0, .int .i64 0, .slice none 0 0] 112) = W := ⟨_, rfl⟩
  rw [hW]
  have K : Hid (Blk W (w.heap.size) #[.int .i64 0, .slice none 0 0, .int .i64 0, .slice none 0 0]) := by subst hW; exact Lib.hid (Blk.new _ _ _)
  have HB : Hid (Below w.heap.size w W) := by subst hW; exact Lib.hid (bAlloc (bSelf w) _)
  replace HR := Lib.hid (HR.out.to HB.out)
  clear hW
  go_loopw [7] (fun s6 wr => ∃ k : Nat, 1 ≤ k ∧ k ≤ n ∧ s6 = .int .i64 k ∧ Hid (pi = ixF (fun j => decide (v ≤ (fg (uppV l) j).1)) k (n - k)) ∧ W = wr) (fun s6 _ => n - (intOf s6).toNat)
  case atStart => exact ⟨1, Nat.le_refl _, by omega, rfl, HPI, rfl⟩
  case round =>
    obtain ⟨k, hk1, hk, rfl, hee, rfl⟩ := hrel
    by_cases hlt : k < n
    · obtain ⟨b, off', rfl, hb, hc⟩ := HR.out.at (k := k * 3) (by omega)
      have HBL : Hid (b < W.heap.size) := Lib.hid hb
      obtain ⟨⟨x1, y1⟩, hx1⟩ : ∃ x, fg (uppV l) k = x := ⟨_, rfl⟩
      obtain ⟨⟨x0, y0⟩, hx0⟩ : ∃ x, fg (uppV l) (k - 1) = x := ⟨_, rfl⟩
      obtain ⟨j, hj⟩ : ∃ j, k - 1 = j := ⟨_, rfl⟩
      have hv1 : (vg l k).1 = x1 ∧ (vg l k).2.2 = y1 := by rw [fg_upp] at hx1; exact ⟨congrArg Prod.fst hx1, congrArg Prod.snd hx1⟩
      have hv0 : (vg l j).1 = x0 ∧ (vg l j).2.2 = y0 := by rw [hj, fg_upp] at hx0; exact ⟨congrArg Prod.fst hx0, congrArg Prod.snd hx0⟩
      have C0 : Hid (W.cell? ⟨b, off' + k * 3, none⟩ = some (.int .i64 x1)) := Lib.hid (by have := hc (k * 3) (by omega); rw [flws0, hv1.1] at this; exact this)
      have C1 : Hid (W.cell? ⟨b, off' + k * 3 + 2, none⟩ = some (.int .i64 y1)) := Lib.hid (by have := hc (k * 3 + 1 + 1) (by omega); rw [flws2, hv1.2] at this; exact this)
      have D0 : Hid (W.cell? ⟨b, off' + j * 3, none⟩ = some (.int .i64 x0)) := Lib.hid (by have := hc (j * 3) (by omega); rw [flws0, hv0.1] at this; exact this)
      have D1 : Hid (W.cell? ⟨b, off' + j * 3 + 2, none⟩ = some (.int .i64 y0)) := Lib.hid (by have := hc (j * 3 + 1 + 1) (by omega); rw [flws2, hv0.2] at this; exact this)
      have HLK := Lib.hid (fun W' => HLI.out W' k hk1 hlt)
      rw [hx1, hx0] at HLK
      dsimp only at HLK
      have hkn : (k : Int) < (n : Int) := by omega
      have hjn : (j : Int) < (n : Int) := by omega
      have hkj : (k : Int) - 1 = (j : Int) := by omega
      have c0 := C0.out
      cases g : decide (v ≤ x1) with
      | false =>
        have HS := Lib.hid (ixF_step (p := fun j => decide (v ≤ (fg (uppV l) j).1)) hlt (by rw [hx1]; exact g))
        clear hx1 hx0 hj hc hv1 hv0 hb hkj hjn
        go_wp2_with fail
        go_roundw
        case rel => exact ⟨k + 1, by omega, by omega, by go_num, Lib.hid (hee.out.trans HS.out), trivial⟩
        case measure => simp [intOf]; omega
      | true =>
        have HS := Lib.hid (ixF_stop (p := fun j => decide (v ≤ (fg (uppV l) j).1)) hlt (by rw [hx1]; exact g))
        have HQ : Hid (q = rAdd (y0, 1) (fr ((y1 - y0) * (v - x0)) (x1 - x0))) := Lib.hid (by
          rw [HPR.out, hee.out, HS.out, if_pos hlt, hx1, hx0]; rfl)
        rw [← HQ.out] at HLK
        clear hx1 hx0 hj hc hv1 hv0 hb
        go_upto_region 6 with (fail)
        clear c0
        refine wp_region_quiet_tail 23 (fun w' => Below (World.heap W).size (W) w') (by kernel_rfl) (by kernel_rfl) (Below.refl _ _).drew ?_
        simp only [List.take_succ_cons, List.take_zero, List.drop_succ_cons, List.drop_zero]
        refine WQ.out ?_
        repeat (first | (refine WQ_no (by rfl) ?_; (simp only [Act.put, List.setIfInBounds_toArray, List.set_cons_zero, List.set_cons_succ])) | (refine WQ_yes (by rfl) ?_; apply Exists.intro; refine ⟨fun w1 hb1 => ?_, ?_⟩; (focus (((have c0 := (hb1.cell (p := ⟨b, off' + k * 3, none⟩) HBL.out).trans C0.out; have c1 := (hb1.cell (p := ⟨b, off' + k * 3 + 2, none⟩) HBL.out).trans C1.out; have d0 := (hb1.cell (p := ⟨b, off' + j * 3, none⟩) HBL.out).trans D0.out; have d1 := (hb1.cell (p := ⟨b, off' + j * 3 + 2, none⟩) HBL.out).trans D1.out); have hb1 := Lib.hid hb1; go_simp); (try (go_bits; try go_simp)); (try (rw [if_pos (by omega)]; try go_simp)); (first | done | (fail) | (with_reducible rfl) | exact rfl))); (simp only [Act.put, List.setIfInBounds_toArray, List.set_cons_zero, List.set_cons_succ])))
        refine WQ_nil ?_
        intro w1 hb1
        go_wp2_with fail
        replace K := Lib.hid (K.out.to hb1)
        replace HB := Lib.hid (bThen HB.out hb1)
        clear HRI HR C0 C1 D0 D1 HQ HS
        refine (HLK.out _).mono ?_
        rintro e w3 ⟨g1, g2, z3, rfl, hr3, hb, hloc⟩
        have HR3 := Lib.hid hr3
        have HL := Lib.hid (fun (P : Nat → Prop) (h : ∀ b, w1.heap.size ≤ b → P b) => hloc P h (fun i hi => by cases hi))
        have HLB := Lib.hid (HL.out (fun c => c ≠ w.heap.size) (fun b hb => by have := K.out.1; omega))
        have HSZ : Hid (w.heap.size ≤ w1.heap.size) := Lib.hid HB.out.size
        replace K := Lib.hid (K.out.to hb)
        replace HB := Lib.hid (bThen HB.out hb)
        obtain ⟨s3, n3, k3, t3, m3, l3, rfl, -, -⟩ := hr3.ex
        clear hb hr3 hloc
        obtain ⟨-, kk, f'⟩ := K.out
        go_wp2_with fail
        clear kk f'
        have F := (K.out.st4 (.int .i64 s3) (.slice g1 n3 k3) (.int .i64 t3) (.slice g2 m3 l3)).2.1
        have F0 := F 0; have F1 := F 1; have F2 := F 2; have F3 := F 3
        unfold st4 at F0 F1 F2 F3
        clear F
        have HP : Hid (RPost [] q w (.returned (.agg #[.int .i64 s3, .slice g1 n3 k3, .int .i64 t3, .slice g2 m3 l3])) (st4 w3 (w.heap.size) (.int .i64 s3) (.slice g1 n3 k3) (.int .i64 t3) (.slice g2 m3 l3))) := Lib.hid
          ⟨g1, g2, _, rfl, HR3.out.st4 HLB.out _ _ _ _, HB.out.trans (below_st4 w3 (Nat.le_refl _) _ _ _ _), fun P hf _ => HL.out P (fun b hb => hf b (by have := HSZ.out; omega))⟩
        refine bodyPost_ret (v := .agg #[.int .i64 s3, .slice g1 n3 k3, .int .i64 t3, .slice g2 m3 l3]) ?_ rfl HP.out
        simp [results, Tryz.results120, go_sem, F0, F1, F2, F3]
    · obtain rfl : k = n := by omega
      have HQ : Hid (q = (0, 1)) := Lib.hid (by
        have hpi : pi = k := by
          rw [hee.out, Nat.sub_self]; rfl
        rw [HPR.out, hpi, if_neg (Nat.lt_irrefl _)])
      rw [← HQ.out] at HRI
      clear HR HLI HPR HPI hee
      go_wp2_with fail
      refine (HRI.out _).mono ?_
      rintro e w3 ⟨g1, g2, z3, rfl, hr3, hb, hloc⟩
      have HR3 := Lib.hid hr3
      have HL := Lib.hid (fun (P : Nat → Prop) (h : ∀ b, W.heap.size ≤ b → P b) => hloc P h (fun i hi => by cases hi))
      have HLB := Lib.hid (HL.out (fun c => c ≠ w.heap.size) (fun b hb => by have := K.out.1; omega))
      have HSZ : Hid (w.heap.size ≤ W.heap.size) := Lib.hid HB.out.size
      replace K := Lib.hid (K.out.to hb)
      replace HB := Lib.hid (bThen HB.out hb)
      obtain ⟨s3, n3, k3, t3, m3, l3, rfl, -, -⟩ := hr3.ex
      clear hb hr3 hloc
      obtain ⟨-, kk, f'⟩ := K.out
      go_wp2_with fail
      clear kk f'
      have F := (K.out.st4 (.int .i64 s3) (.slice g1 n3 k3) (.int .i64 t3) (.slice g2 m3 l3)).2.1
      have F0 := F 0; have F1 := F 1; have F2 := F 2; have F3 := F 3
      unfold st4 at F0 F1 F2 F3
      clear F
      have HP : Hid (RPost [] q w (.returned (.agg #[.int .i64 s3, .slice g1 n3 k3, .int .i64 t3, .slice g2 m3 l3])) (st4 w3 (w.heap.size) (.int .i64 s3) (.slice g1 n3 k3) (.int .i64 t3) (.slice g2 m3 l3))) := Lib.hid
        ⟨g1, g2, _, rfl, HR3.out.st4 HLB.out _ _ _ _, HB.out.trans (below_st4 w3 (Nat.le_refl _) _ _ _ _), fun P hf _ => HL.out P (fun b hb => hf b (by have := HSZ.out; omega))⟩
      refine bodyPost_ret (v := .agg #[.int .i64 s3, .slice g1 n3 k3, .int .i64 t3, .slice g2 m3 l3]) ?_ rfl HP.out
      simp [results, Tryz.results120, go_sem, F0, F1, F2, F3]

end Go.Proofs.YtjfedpblkejmkaaGreat

/-
  Base: WideInt, RatioFrac at small fractions, Cmp of fractions.
-/
namespace Go.Proofs.YtjfedpblkejmkaaGreat
open Go.RowKit
attribute [local go_sem] Oper.semAt_some

theorem Dig.drop {l : List Int} (h : Dig l) (n : Nat) : Dig (l.drop n) := fun d hd => h d (List.mem_of_mem_drop hd)
theorem val_dropS {l : List Int} {k : Nat} (hk : k < l.length) : val (l.drop k) = gi l k + 1000000000 * val (l.drop (k + 1)) := by
  rw [gi_drop l k hk]; rfl
theorem val_drop_le {l : List Int} (hd : Dig l) : ∀ k, 0 ≤ val (l.drop k) ∧ val (l.drop k) ≤ val l
  | 0 => ⟨val_nonneg hd, Int.le_refl _⟩
  | k + 1 => by
    obtain ⟨h1, h2⟩ := val_drop_le hd k
    refine ⟨val_nonneg (hd.drop _), ?_⟩
    by_cases hk : k < l.length
    · have := val_dropS hk
      have h3 := (hd.at k).1
      have h4 := val_nonneg (hd.drop (k + 1))
      omega
    · rw [List.drop_of_length_le (by omega)]
      exact val_nonneg hd
theorem sign_val (z : Int) : z.sign * val (dg z) = z := by rw [val_dg]; exact Int.sign_mul_natAbs z

set_option maxHeartbeats 1600000 in
set_option maxRecDepth 100000 in
theorem WideInt_any (z : Int) (a : Option Addr) (v : Value) (w : World) (h1 : -1000000000000000000 < z) (h2 : z < 1000000000000000000) (hw : RW w a v z) :
    Calls Tryz.prog 118 #[v] w fun e w' => e = .returned (.tuple #[.int .i64 z, .bool true]) ∧ Below w.heap.size w w' := by
  obtain ⟨cap, rfl, hcap, hr⟩ := hw
  have hlen : (dg z).length ≤ 2 := digs_len 2 z.natAbs (Nat.lt_of_lt_of_eq (show z.natAbs < 1000000000000000000 by omega) (by decide))
  have HD := Lib.hid (dg_dig z)
  have HZ := Lib.hid (sign_val z)
  have hV : val (dg z) < 1000000000000000000 := by rw [val_dg]; omega
  have hs := sign_bd z
  obtain ⟨sg, hsg⟩ : ∃ s, z.sign = s := ⟨_, rfl⟩
  obtain ⟨l, hl⟩ : ∃ l, dg z = l := ⟨_, rfl⟩
  rw [hl] at hlen HD HZ hV hr hcap ⊢
  rw [hsg] at HZ hs ⊢
  have HR := Lib.hid hr
  have HDR := Lib.hid (fun k => val_drop_le HD.out k)
  obtain ⟨n, hn⟩ : ∃ n, l.length = n := ⟨_, rfl⟩
  have HN := Lib.hid hn
  rw [hn] at hlen HR hcap ⊢
  obtain ⟨V, hVV⟩ : ∃ V, val l = V := ⟨_, rfl⟩
  rw [hVV] at hV HZ HDR
  have HVV := Lib.hid hVV
  clear hr hl hsg hn hVV h1 h2
  go_enter Tryz.func118, Tryz.ntmps118
  go_wp2_with fail
  obtain ⟨W, hW⟩ : ∃ W, w.alloc (.cells #[.int .i64 sg, .slice a n cap] 110) = W := ⟨_, rfl⟩
  rw [hW]
  have K1 : Hid (Blk W w.heap.size #[.int .i64 sg, .slice a n cap]) := by subst hW; exact Lib.hid (Blk.new _ _ _)
  have HB : Hid (Below w.heap.size w W) := by subst hW; exact Lib.hid (bAlloc (bSelf w) _)
  replace HR : Hid (Reads W a n (ints l)) := by subst hW; exact Lib.hid (HR.out.alloc _)
  clear hW
  obtain ⟨-, k1, -⟩ := K1.out
  go_wp2_with fail
  go_loopw [4, 5] (fun s4 s5 wr => ∃ k : Nat, k ≤ n ∧ s5 = .int .i64 ((n : Int) - 1 - (k : Int)) ∧ s4 = .int .i64 (val (l.drop (n - k))) ∧ Hid (Below W.heap.size W wr)) (fun _ s5 _ => (intOf s5 + 1).toNat)
  case atStart => exact ⟨0, Nat.zero_le _, by simp, by rw [Nat.sub_zero, ← HN.out, List.drop_length]; rfl, Lib.hid (bSelf W)⟩
  case round =>
    obtain ⟨k, hk, rfl, rfl, hB⟩ := hrel
    obtain ⟨-, k1, -⟩ := K1.out.to hB.out
    by_cases hlt : k < n
    · obtain ⟨j, hj⟩ : ∃ j, n - k = j + 1 := ⟨n - k - 1, by omega⟩
      rw [hj]
      obtain ⟨b, off, rfl, hb, hc⟩ := (HR.out.to hB.out).at (k := j) (by omega)
      obtain ⟨d, hd⟩ : ∃ d, gi l j = d := ⟨_, rfl⟩
      have c0 : wr.cell? ⟨b, off + j, none⟩ = some (.int .i64 d) := by have := hc j (by omega); rw [show ints l j = .int .i64 (gi l j) from rfl, hd] at this; exact this
      have hdd := HD.out.at j
      rw [hd] at hdd
      have hdr := HDR.out (j + 1)
      have hdj := HDR.out j
      have hst := val_dropS (l := l) (k := j) (by have := HN.out; omega)
      rw [hd] at hst
      have HST := Lib.hid hst
      obtain ⟨y, hy⟩ : ∃ y, val (l.drop (j + 1)) = y := ⟨_, rfl⟩
      obtain ⟨x, hx⟩ : ∃ y, val (l.drop j) = y := ⟨_, rfl⟩
      rw [hy] at hdr hst ⊢
      rw [hx] at hdj hst
      rw [hy] at HST
      have hij : (n : Int) - 1 - (k : Int) = (j : Int) := by omega
      rw [hij]
      have HIJ := Lib.hid hij
      have HJ := Lib.hid hj
      have hjn : (j : Int) < (n : Int) := by omega
      clear hc hd hy hx hij hj hlt
      go_wp2_with fail
      go_roundw
      case rel => exact ⟨k + 1, by have := HJ.out; omega, congrArg (Value.int .i64) (by have := HIJ.out; omega), congrArg (Value.int .i64) (by have := HJ.out; rw [show n - (k + 1) = j by omega, HST.out]; omega), hB⟩
      case measure => simp [intOf]
    · have hnk : n - k = 0 := by omega
      have hij : (n : Int) - 1 - (k : Int) = -1 := by omega
      rw [hnk, hij]
      have HV0 : Hid (val (l.drop 0) = V) := Lib.hid (by rw [List.drop_zero]; exact HVV.out)
      rw [HV0.out]
      have hV0 : 0 ≤ V := by have := (HDR.out 0).1; rw [HV0.out] at this; exact this
      have hzb : -1000000000000000000 < sg * V ∧ sg * V < 1000000000000000000 := by
        obtain ⟨s1, s2⟩ := hs
        have : sg = -1 ∨ sg = 0 ∨ sg = 1 := by omega
        rcases this with rfl | rfl | rfl <;> omega
      obtain ⟨z1, z2⟩ := hzb
      clear hij hnk hlt
      go_wp2_with fail
      refine bodyPost_ret (results_tmp2 rfl _ _ _) rfl ?_
      exact ⟨by rw [← HZ.out]; rfl, bThen HB.out hB.out⟩

end Go.Proofs.YtjfedpblkejmkaaGreat

/-
  Floors and ceilings of Ratios.
-/
namespace Go.Proofs.YtjfedpblkejmkaaGreat
open Go.RowKit
attribute [local go_sem] Oper.semAt_some

set_option maxHeartbeats 1600000 in
set_option maxRecDepth 100000 in
theorem RatioFloor_any (q : Int × Int) (a1 a2 : Option Addr) (v : Value) (w : World) (h : RR w a1 a2 v q) (l1 : (dg q.1).length ≤ 150) (l2 : (dg q.2).length ≤ 150) (hq : 0 < q.2) :
    Calls Tryz.prog 119 #[v] w fun e w1 => WPost [] (q.1 / q.2) w e w1 := by
  obtain ⟨s1, n1, c1, s2, n2, c2, rfl, P1, P2⟩ := h.ex
  have HFL := Lib.hid (fun W (hb : Below w.heap.size w W) => WideFloor_any q.1 q.2 a1 a2 _ _ W (P1.to hb) (P2.to hb) l1 l2 hq)
  obtain ⟨z, hz⟩ : ∃ z, q.1 / q.2 = z := ⟨_, rfl⟩
  rw [hz] at HFL ⊢
  clear hz h P1 P2 l1 l2 hq
  go_enter Tryz.func119, Tryz.ntmps119
  go_upto_region 1 with (fail)
  obtain ⟨W, hW⟩ : ∃ W, (w.alloc (.cells #[.int .i64 s1, .slice a1 n1 c1, .int .i64 s2, .slice a2 n2 c2] 112)).alloc (.cells #[.int .i64 0, .slice none 0 0] 110) = W := ⟨_, rfl⟩
  rw [hW]
  have K1 : Hid (Blk W w.heap.size #[.int .i64 s1, .slice a1 n1 c1, .int .i64 s2, .slice a2 n2 c2]) := by subst hW; exact Lib.hid ((Blk.new _ _ _).alloc _)
  have K2 : Hid (Blk W (w.heap.size + 1) #[.int .i64 0, .slice none 0 0]) := by subst hW; exact Lib.hid (Blk.newAt _ _ _ (by simp))
  have HB : Hid (Below w.heap.size w W) := by subst hW; exact Lib.hid (bAlloc (bAlloc (bSelf w) _) _)
  clear hW
  obtain ⟨-, k1, -⟩ := K1.out
  go_wp2_with fail
  clear k1
  refine (HFL.out _ HB.out).mono ?_
  rintro e w3 ⟨g, v, rfl, hv, hb, hloc⟩
  have HV := Lib.hid hv
  have HSZ : Hid (w.heap.size ≤ W.heap.size) := Lib.hid HB.out.size
  have HL := Lib.hid (fun (P : Nat → Prop) (h : ∀ b, W.heap.size ≤ b → P b) => hloc P h (fun i hi => by cases hi))
  have HLB := Lib.hid (HL.out (fun c => c ≠ w.heap.size + 1) (fun b hb => by have := K2.out.1; omega))
  replace K2 := Lib.hid (K2.out.to hb)
  replace HB := Lib.hid (bThen HB.out hb)
  obtain ⟨t, n, c, rfl⟩ := hv.ex
  clear hb hv hloc
  obtain ⟨-, k2, f2⟩ := K2.out
  go_wp2_with fail
  have F := ((K2.out.set 0 (.int .i64 t)).set 1 (.slice g n c)).2.1
  have F0 := F 0; have F1 := F 1
  clear F k2 f2
  have HP : Hid (WPost [] z w (.returned (.agg #[.int .i64 t, .slice g n c])) ((w3.setCell ⟨w.heap.size + 1, 0, none⟩ (.int .i64 t)).setCell ⟨w.heap.size + 1, 1, none⟩ (.slice g n c))) := Lib.hid
    ⟨g, _, rfl, HV.out.set2' HLB.out _ _, (HB.out.setCell (p := ⟨w.heap.size + 1, 0, none⟩) (Nat.le_succ _) _).setCell (p := ⟨w.heap.size + 1, 1, none⟩) (Nat.le_succ _) _, fun P hf _ => HL.out P (fun b hb => hf b (by have := HSZ.out; omega))⟩
  refine bodyPost_ret (v := .agg #[.int .i64 t, .slice g n c]) ?_ rfl HP.out
  simp [results, Tryz.results119, go_sem, F0, F1]

set_option maxHeartbeats 1600000 in
set_option maxRecDepth 100000 in
theorem RatioCeil_any (q : Int × Int) (a1 a2 : Option Addr) (v : Value) (w : World) (h : RR w a1 a2 v q) (l1 : (dg q.1).length ≤ 150) (l2 : (dg q.2).length ≤ 150) (hq : 0 < q.2) :
    Calls Tryz.prog 121 #[v] w fun e w1 => WPost [] (-(-q.1 / q.2)) w e w1 := by
  obtain ⟨s1, n1, c1, s2, n2, c2, rfl, P1, P2⟩ := h.ex
  have HNG := Lib.hid (fun W (hb : Below w.heap.size w W) => WideNeg_any q.1 a1 _ W (P1.to hb))
  have HFL := Lib.hid (fun W v1 h1 (hb : Below w.heap.size w W) => WideFloor_any (-q.1) q.2 a1 a2 v1 _ W h1 (P2.to hb) (by rw [dg_neg]; exact l1) l2 hq)
  obtain ⟨z, hz⟩ : ∃ z, -q.1 / q.2 = z := ⟨_, rfl⟩
  rw [hz] at HFL ⊢
  have HNZ := Lib.hid (fun W a v h => WideNeg_any z a v W h)
  have HDZ : Hid (∀ (P : Nat → Prop) a, Loc P a z → Loc P a (-z)) := Lib.hid (fun P a h hn => h (by rw [← dg_neg]; exact hn))
  clear hz h P1 P2 l1 l2 hq
  go_enter Tryz.func121, Tryz.ntmps121
  go_upto_region 1 with (fail)
  obtain ⟨W, hW⟩ : ∃ W, (w.alloc (.cells #[.int .i64 s1, .slice a1 n1 c1, .int .i64 s2, .slice a2 n2 c2] 112)).alloc (.cells #[.int .i64 0, .slice none 0 0] 110) = W := ⟨_, rfl⟩
  rw [hW]
  have K1 : Hid (Blk W w.heap.size #[.int .i64 s1, .slice a1 n1 c1, .int .i64 s2, .slice a2 n2 c2]) := by subst hW; exact Lib.hid ((Blk.new _ _ _).alloc _)
  have K2 : Hid (Blk W (w.heap.size + 1) #[.int .i64 0, .slice none 0 0]) := by subst hW; exact Lib.hid (Blk.newAt _ _ _ (by simp))
  have HB : Hid (Below w.heap.size w W) := by subst hW; exact Lib.hid (bAlloc (bAlloc (bSelf w) _) _)
  clear hW
  have HSZ : Hid (w.heap.size + 1 < W.heap.size) := Lib.hid K2.out.1
  refine wp_region_treeT 7 (by kernel_rfl) (by kernel_rfl) (fun wd hwd => ?_)
  have T := Lib.hid hwd
  clear hwd
  refine WE_yes 0 rfl (by kernel_rfl) (fun _ _ _ _ _ h => h) (by rfl) ?_; apply Exists.intro; refine ⟨fun w1 hb1 => ?_, ?_⟩; (focus (((obtain ⟨-, k0, -⟩ := K1.out.to (T.out.trans hb1)); have hb1 := Lib.hid hb1; go_simp); (try (go_bits; try go_simp)); (try (rw [if_pos (by omega)]; try go_simp)); (first | done | (fail) | (with_reducible rfl) | exact rfl)))
  simp only [Act.put, List.setIfInBounds_toArray, List.set_cons_zero, List.set_cons_succ]
  refine WE_yes 1 rfl (by kernel_rfl) (fun _ _ _ _ _ h => h) (by rfl) ?_; apply Exists.intro; refine ⟨fun w1 hb1 => ?_, ?_⟩; (focus (((obtain ⟨-, k0, -⟩ := K1.out.to (T.out.trans hb1)); have hb1 := Lib.hid hb1; go_simp); (try (go_bits; try go_simp)); (try (rw [if_pos (by omega)]; try go_simp)); (first | done | (fail) | (with_reducible rfl) | exact rfl)))
  simp only [Act.put, List.setIfInBounds_toArray, List.set_cons_zero, List.set_cons_succ]
  refine WE_yes 3 rfl (by kernel_rfl) (fun _ _ _ _ _ h => h) (by rfl) ?_; apply Exists.intro; refine ⟨fun w1 hb1 => ?_, ?_⟩; (focus (((obtain ⟨-, k0, -⟩ := K1.out.to (T.out.trans hb1)); have hb1 := Lib.hid hb1; go_simp); (try (go_bits; try go_simp)); (try (rw [if_pos (by omega)]; try go_simp)); (first | done | (fail) | (with_reducible rfl) | exact rfl)))
  simp only [Act.put, List.setIfInBounds_toArray, List.set_cons_zero, List.set_cons_succ]
  refine WE_yes 4 rfl (by kernel_rfl) (fun _ _ _ _ _ h => h) (by rfl) ?_; apply Exists.intro; refine ⟨fun w1 hb1 => ?_, ?_⟩; (focus (((obtain ⟨-, k0, -⟩ := K1.out.to (T.out.trans hb1)); have hb1 := Lib.hid hb1; go_simp); (try (go_bits; try go_simp)); (try (rw [if_pos (by omega)]; try go_simp)); (first | done | (fail) | (with_reducible rfl) | exact rfl)))
  simp only [Act.put, List.setIfInBounds_toArray, List.set_cons_zero, List.set_cons_succ]
  refine WE_one 2 rfl (by decide) (by kernel_rfl) ?_
  unfold stepE
  go_wp2_with fail
  refine (HNG.out _ (bThen HB.out T.out)).mono ?_
  rintro e wN ⟨vN, rfl, hvN, hb⟩
  have HVN := Lib.hid hvN
  have hbd := Lib.hid (hb.mono T.out.size)
  replace T := Lib.hid (T.out.trans hbd.out)
  clear hb
  obtain ⟨sN, nN, cN, rfl⟩ := hvN.ex
  clear hvN
  go_wp2_with fail
  refine ⟨hbd.out, ?_⟩
  clear hbd
  refine WE_one 5 rfl (by decide) (by kernel_rfl) ?_
  unfold stepE
  go_wp2_with fail
  refine (HFL.out _ _ HVN.out (bThen HB.out T.out)).mono ?_
  rintro e wM ⟨gM, vM, rfl, hvM, hb, hlM⟩
  have HLM := Lib.hid (fun (P : Nat → Prop) (h : ∀ b, wN.heap.size ≤ b → P b) => hlM P h (fun i hi => by cases hi))
  have HSN : Hid (W.heap.size ≤ wN.heap.size) := Lib.hid T.out.size
  have HVM := Lib.hid hvM
  have hbd := Lib.hid (hb.mono T.out.size)
  replace T := Lib.hid (T.out.trans hbd.out)
  clear hb hlM
  obtain ⟨sM, nM, cM, rfl⟩ := hvM.ex
  clear hvM
  go_wp2_with fail
  refine ⟨hbd.out, ?_⟩
  clear hbd
  refine WE_one 6 rfl (by decide) (by kernel_rfl) ?_
  unfold stepE
  go_wp2_with fail
  refine (HNZ.out _ _ _ HVM.out).mono ?_
  rintro e wK ⟨vK, rfl, hvK, hb⟩
  have HVK := Lib.hid hvK
  have hbd := Lib.hid (hb.mono T.out.size)
  replace T := Lib.hid (T.out.trans hbd.out)
  clear hb
  obtain ⟨sK, nK, cK, rfl⟩ := hvK.ex
  clear hvK
  go_wp2_with fail
  refine ⟨hbd.out, ?_⟩
  clear hbd
  replace K2 := Lib.hid (K2.out.to T.out)
  replace HB := Lib.hid (bThen HB.out T.out)
  have HL := Lib.hid (fun (P : Nat → Prop) (h : ∀ b, wN.heap.size ≤ b → P b) => HDZ.out P gM (HLM.out P h))
  have HLB := Lib.hid (HL.out (fun c => c ≠ w.heap.size + 1) (fun b hb => by have := HSZ.out; have := HSN.out; omega))
  clear T
  refine WE_tail rfl (by kernel_rfl) ?_
  simp only [List.drop_succ_cons, List.drop_zero]
  obtain ⟨-, k2, f2⟩ := K2.out
  go_wp2_with fail
  have F := ((K2.out.set 0 (.int .i64 sK)).set 1 (.slice gM nK cK)).2.1
  have F0 := F 0; have F1 := F 1
  clear F k2 f2
  have HP : Hid (WPost [] (-z) w (.returned (.agg #[.int .i64 sK, .slice gM nK cK])) ((wK.setCell ⟨w.heap.size + 1, 0, none⟩ (.int .i64 sK)).setCell ⟨w.heap.size + 1, 1, none⟩ (.slice gM nK cK))) := Lib.hid
    ⟨gM, _, rfl, HVK.out.set2' HLB.out _ _, (HB.out.setCell (p := ⟨w.heap.size + 1, 0, none⟩) (Nat.le_succ _) _).setCell (p := ⟨w.heap.size + 1, 1, none⟩) (Nat.le_succ _) _, fun P hf _ => HL.out P (fun b hb => hf b (by have := HSZ.out; have := HSN.out; omega))⟩
  refine bodyPost_ret (v := .agg #[.int .i64 sK, .slice gM nK cK]) ?_ rfl HP.out
  simp [results, Tryz.results121, go_sem, F0, F1]

end Go.Proofs.YtjfedpblkejmkaaGreat

/-
  The reference: Below, Next.
-/
namespace Go.Proofs.YtjfedpblkejmkaaGreat
open Go.RowKit
attribute [local go_sem] Oper.semAt_some

theorem dg_frL {q : Int × Int} (h : QOk q) : (dg (fr q.1 q.2).1).length ≤ 50 ∧ (dg (fr q.1 q.2).2).length ≤ 50 := ⟨Nat.le_trans (dg_fr1 (dg_few (by have := h.n0; omega) (by have := h.n1; omega))) (by decide), Nat.le_trans (dg_fr2 (dg_few (by have := h.d0; omega) (by have := h.d1; omega))) (by decide)⟩
/-- A fraction in a box. -/
def RBlk (W : World) (b : Nat) (q : Int × Int) : Prop :=
  ∃ a1 a2 s1 n1 c1 s2 n2 c2, Blk W b #[.int .i64 s1, .slice a1 n1 c1, .int .i64 s2, .slice a2 n2 c2] ∧ RR W a1 a2 (.agg #[.int .i64 s1, .slice a1 n1 c1, .int .i64 s2, .slice a2 n2 c2]) q
theorem RBlk.to {W W' : World} {b : Nat} {q : Int × Int} (h : RBlk W b q) (hb : Below W.heap.size W W') : RBlk W' b q := by
  obtain ⟨a1, a2, s1, n1, c1, s2, n2, c2, h1, h2⟩ := h
  exact ⟨a1, a2, s1, n1, c1, s2, n2, c2, h1.to hb, h2.to hb⟩

end Go.Proofs.YtjfedpblkejmkaaGreat

/-
  The reference: Flows, DropFor.
-/
namespace Go.Proofs.YtjfedpblkejmkaaGreat
open Go.RowKit
attribute [local go_sem] Oper.semAt_some

theorem lin_fl {l : List (Int × Int)} {v : Int} (h : LinOk l) (h0 : 0 ≤ v) (h1 : v ≤ capV l) :
    (dg (rPr l v).1).length ≤ 50 ∧ (dg (rPr l v).2).length ≤ 50 ∧ 0 < (rPr l v).2 ∧ (rPr l v).1 / (rPr l v).2 = flQ (prQ l v) ∧ -(-(rPr l v).1 / (rPr l v).2) = clQ (prQ l v) ∧ -1000000 ≤ flQ (prQ l v) ∧ flQ (prQ l v) ≤ 1000000 ∧ -1000000 ≤ clQ (prQ l v) ∧ clQ (prQ l v) ≤ 1000000 := by
  have hq := QOk.of_lin h h0 h1
  obtain ⟨d1, d2, d3, d4⟩ := prQ_denL h h0 h1
  have hd := dg_frL hq
  have hp := fr_pos (n := (prQ l v).1) (show 0 < (prQ l v).2 by omega)
  have e := rPr_eqL h h0 h1
  have e1 := fl_fr (N := (prQ l v).1) (show 0 < (prQ l v).2 by omega)
  have e2 := cl_fr (N := (prQ l v).1) (show 0 < (prQ l v).2 by omega)
  have e3 := clQ_eq (q := fr (prQ l v).1 (prQ l v).2) hp
  have f0 : flQ (prQ l v) = (prQ l v).1 / (prQ l v).2 := rfl
  have c0 : clQ (prQ l v) = ((prQ l v).1 + (prQ l v).2 - 1) / (prQ l v).2 := rfl
  have b1 : 0 ≤ (prQ l v).1 / (prQ l v).2 := Int.ediv_nonneg d3 (by omega)
  have b2 : (prQ l v).1 / (prQ l v).2 ≤ 1000 := Int.ediv_le_of_le_mul (by omega) d4
  have b3 : 0 ≤ ((prQ l v).1 + (prQ l v).2 - 1) / (prQ l v).2 := Int.ediv_nonneg (by omega) (by omega)
  have b4 : ((prQ l v).1 + (prQ l v).2 - 1) / (prQ l v).2 ≤ 1001 := Int.ediv_le_of_le_mul (by omega) (by omega)
  rw [e]
  exact ⟨hd.1, hd.2, hp, e1, by rw [← e3]; exact e2, by omega, by omega, by omega, by omega⟩

set_option maxHeartbeats 3200000 in
set_option maxRecDepth 100000 in
theorem rFlows_any (l : List (Int × Int × Int)) (a b : Int) (al : Option Addr) (cap : Nat) (w : World) (hv : VlvOk l) (ha : 0 ≤ a ∧ a ≤ capV (lowV l)) (hb : 0 ≤ b ∧ b ≤ capV (uppV l)) (hr : Reads w al (l.length * 3) (flws l)) :
    Calls Tryz.prog 50 #[.slice al l.length cap, .agg #[.int .i64 a, .int .i64 b]] w fun e w' => e = .returned (.agg #[.int .i64 (flwA l a b).1, .int .i64 (flwA l a b).2]) ∧ Below w.heap.size w w' := by
  have hl : LinOk (lowV l) := hv.lo
  have hu : LinOk (uppV l) := hv.hi
  have hla := (hl.vol ((lowV l).length - 1) (by have := hl.two; omega)).2
  have hub := (hu.vol ((uppV l).length - 1) (by have := hu.two; omega)).2
  have hla2 : a ≤ 1000 := by have := ha.2; unfold capV at this; omega
  have hub2 : b ≤ 1000 := by have := hb.2; unfold capV at this; omega
  obtain ⟨p1, p2, p3, p4, -, p6, p7, -, -⟩ := lin_fl hl ha.1 ha.2
  obtain ⟨r1, r2, r3, -, r5, -, -, r8, r9⟩ := lin_fl hu hb.1 hb.2
  have HF1 := Lib.hid (fun W (h : Below w.heap.size w W) => rFlowLo_any l a al cap W hv (by omega) (hr.to h))
  have HF2 := Lib.hid (fun W (h : Below w.heap.size w W) => rFlowHi_any l b al cap W hv (by omega) (hr.to h))
  have HFL := Lib.hid (fun W a1 a2 v h => RatioFloor_any (rPr (lowV l) a) a1 a2 v W h (by omega) (by omega) p3)
  have HCE := Lib.hid (fun W a1 a2 v h => RatioCeil_any (rPr (uppV l) b) a1 a2 v W h (by omega) (by omega) r3)
  rw [p4] at HFL
  rw [r5] at HCE
  have HI1 := Lib.hid (fun W a' v h => WideInt_any (flQ (prQ (lowV l) a)) a' v W (by omega) (by omega) h)
  have HI2 := Lib.hid (fun W a' v h => WideInt_any (clQ (prQ (uppV l) b)) a' v W (by omega) (by omega) h)
  have HFA : Hid (flwA l a b = (flQ (prQ (lowV l) a), clQ (prQ (uppV l) b))) := Lib.hid rfl
  rw [HFA.out]
  obtain ⟨z1, hz1⟩ : ∃ z, flQ (prQ (lowV l) a) = z := ⟨_, rfl⟩
  obtain ⟨z2, hz2⟩ : ∃ z, clQ (prQ (uppV l) b) = z := ⟨_, rfl⟩
  rw [hz1] at HFL HI1 ⊢
  rw [hz2] at HCE HI2 ⊢
  dsimp only
  clear hz1 hz2 HFA p1 p2 p3 p4 p6 p7 r1 r2 r3 r5 r8 r9 hla hub hl hu ha hb hr
  go_enter Tryz.func50, Tryz.ntmps50
  go_upto_region 1 with (fail)
  obtain ⟨W, hW⟩ : ∃ W, (w.alloc (.cells #[.int .i64 a, .int .i64 b] 25)).alloc (.cells #[.int .i64 0, .int .i64 0] 25) = W := ⟨_, rfl⟩
  rw [hW]
  have K3 : Hid (Blk W w.heap.size #[.int .i64 a, .int .i64 b]) := by subst hW; exact Lib.hid ((Blk.new _ _ _).alloc _)
  have K4 : Hid (Blk W (w.heap.size + 1) #[.int .i64 0, .int .i64 0]) := by subst hW; exact Lib.hid (Blk.newAt _ _ _ (by simp))
  have HB : Hid (Below w.heap.size w W) := by subst hW; exact Lib.hid (bAlloc (bAlloc (bSelf w) _) _)
  clear hW
  obtain ⟨-, k3, -⟩ := K3.out
  go_wp2_with fail
  clear k3
  refine (HF1.out _ HB.out).mono ?_
  rintro e w1 ⟨g1, g2, v, rfl, hrr, hb, -⟩
  replace K3 := Lib.hid (K3.out.to hb)
  replace K4 := Lib.hid (K4.out.to hb)
  replace HB := Lib.hid (bThen HB.out hb)
  have HRR := Lib.hid hrr
  clear hb hrr HF1
  go_wp2_with fail
  refine (HFL.out _ _ _ _ HRR.out).mono ?_
  rintro e w2 ⟨g1, v, rfl, hw, hb, -⟩
  replace K3 := Lib.hid (K3.out.to hb)
  replace K4 := Lib.hid (K4.out.to hb)
  replace HB := Lib.hid (bThen HB.out hb)
  have HW := Lib.hid hw
  clear hb hw HRR HFL
  go_wp2_with fail
  refine (HI1.out _ _ _ HW.out).mono ?_
  rintro e w3 ⟨rfl, hb⟩
  replace K3 := Lib.hid (K3.out.to hb)
  replace K4 := Lib.hid (K4.out.to hb)
  replace HB := Lib.hid (bThen HB.out hb)
  clear hb HW HI1
  obtain ⟨-, k3, -⟩ := K3.out
  go_wp2_with fail
  clear k3
  refine (HF2.out _ HB.out).mono ?_
  rintro e w4 ⟨g1, g2, v, rfl, hrr, hb, -⟩
  replace K4 := Lib.hid (K4.out.to hb)
  replace HB := Lib.hid (bThen HB.out hb)
  have HRR := Lib.hid hrr
  clear hb hrr HF2 K3
  go_wp2_with fail
  refine (HCE.out _ _ _ _ HRR.out).mono ?_
  rintro e w5 ⟨g1, v, rfl, hw, hb, -⟩
  replace K4 := Lib.hid (K4.out.to hb)
  replace HB := Lib.hid (bThen HB.out hb)
  have HW := Lib.hid hw
  clear hb hw HRR HCE
  go_wp2_with fail
  refine (HI2.out _ _ _ HW.out).mono ?_
  rintro e w6 ⟨rfl, hb⟩
  replace K4 := Lib.hid (K4.out.to hb)
  replace HB := Lib.hid (bThen HB.out hb)
  clear hb HW HI2
  obtain ⟨-, k4, f4⟩ := K4.out
  go_wp2_with fail
  have F := ((K4.out.set 0 (.int .i64 z1)).set 1 (.int .i64 z2)).2.1
  have F0 := F 0; have F1 := F 1
  clear F k4 f4
  refine bodyPost_ret (v := .agg #[.int .i64 z1, .int .i64 z2]) ?_ rfl ⟨rfl, (HB.out.setCell (p := ⟨w.heap.size + 1, 0, none⟩) (Nat.le_succ _) _).setCell (p := ⟨w.heap.size + 1, 1, none⟩) (Nat.le_succ _) _⟩
  simp [results, Tryz.results50, go_sem, F0, F1]

set_option maxHeartbeats 3200000 in
set_option maxRecDepth 100000 in
theorem rDropFor_any (l : List (Int × Int × Int)) (fl : Int) (a : Option Addr) (cap : Nat) (w : World) (hv : VlvOk l) (hf : 0 ≤ fl ∧ fl ≤ 50) (hr : Reads w a (l.length * 3) (flws l)) :
    Calls Tryz.prog 51 #[.slice a l.length cap, .int .i64 fl] w fun e w' => e = .returned (.tuple #[.int .i64 (((drfD l fl).getD 0 : Nat) : Int), .bool (drfD l fl).isSome]) ∧ Below w.heap.size w w' := by
  have hlo : LinOk (lowV l) := hv.lo
  have h2 := hlo.two
  have h8 := hlo.few
  rw [low_len] at h2 h8
  have hc := hlo.vol ((lowV l).length - 1) (by rw [low_len]; omega)
  have HFW := Lib.hid (fun W (x : Int) (hx : 0 ≤ x ∧ x ≤ capV (lowV l)) (hb : Below w.heap.size w W) => rFlowLo_any l x a cap W hv (by have := hx.2; unfold capV at this; omega) (hr.to hb))
  have HLF := Lib.hid (fun (x : Int) (hx : 0 ≤ x ∧ x ≤ capV (lowV l)) => lin_fl hlo hx.1 hx.2)
  have HRI := Lib.hid (fun W => RatioInt_any fl W (by omega) (by omega))
  have HCM := Lib.hid (fun W q a1 a2 b1 b2 v1 v2 h1 h2 (l1 : (dg q.1).length ≤ 50) (l2 : (dg q.2).length ≤ 50) => RatioCmp_any q (fl, 1) a1 a2 b1 b2 v1 v2 W h1 h2 l1 l2 (Nat.le_trans (dg_few (by dsimp only; omega) (by dsimp only; omega)) (by decide)) (Nat.le_trans (dg_few (by dsimp only; omega) (by dsimp only; omega)) (by decide)))
  have HCE := Lib.hid (fun (x : Int) (hx : 0 ≤ x ∧ x ≤ capV (lowV l)) => (show decide (0 ≤ ((rPr (lowV l) x).1 * 1 - fl * (rPr (lowV l) x).2).sign) = !lessQ (prQ (lowV l) x) (fl, 1) from by
    have hq := QOk.of_lin hlo hx.1 hx.2
    rw [rPr_eqL hlo hx.1 hx.2]
    exact cmp_ge (N := (prQ (lowV l) x).1) fl (show 0 < (prQ (lowV l) x).2 by have := hq.d0; omega)))
  have HD : Hid (drfD l fl = drpQ (lowV l) fl 0 (capV (lowV l) + 1).toNat) := Lib.hid rfl
  obtain ⟨dr, hdr⟩ : ∃ d, drfD l fl = d := ⟨_, rfl⟩
  rw [hdr] at HD ⊢
  obtain ⟨i, hi⟩ : ∃ i, l.length = i + 1 := ⟨l.length - 1, by omega⟩
  have HC0 : Hid (capV (lowV l) = (vg l i).1) := Lib.hid (by unfold capV; rw [low_len, hi, Nat.add_sub_cancel, fg_low])
  obtain ⟨bk, off, rfl, hbk, hcl⟩ := hr.at (k := i * 3) (by omega)
  have HC1 := Lib.hid (hcl (i * 3) (by omega))
  rw [flws0, ← HC0.out] at HC1
  have hc0 : 0 ≤ capV (lowV l) := hc.1
  have hc1 : capV (lowV l) ≤ 1000 := hc.2
  obtain ⟨C, hC⟩ : ∃ c, capV (lowV l) = c := ⟨_, rfl⟩
  rw [hC] at HFW HLF HCE HD hc0 hc1 HC1
  obtain ⟨N, hN⟩ : ∃ N : Nat, (C + 1).toNat = N := ⟨_, rfl⟩
  have hCN : C + 1 = (N : Int) := by omega
  rw [hN] at HD
  rw [hi] at HFW ⊢
  have hii : ((i + 1 : Nat) : Int) - 1 = (i : Int) := by omega
  have hi7 : i ≤ 7 := by omega
  clear hdr hC hN hr hv hlo hc hcl h2 h8 hi
  go_enter Tryz.func51, Tryz.ntmps51
  go_wp2_with fail
  go_loopw [6] (fun s6 wr => ∃ k : Nat, s6 = .int .i64 k ∧ k ≤ N ∧ Hid (dr = drpQ (lowV l) fl k (N - k)) ∧ Hid (Below w.heap.size w wr)) (fun s6 _ => N - (intOf s6).toNat)
  case atStart => exact ⟨0, rfl, Nat.zero_le _, Lib.hid (by rw [HD.out]; rfl), Lib.hid (bSelf w)⟩
  case round =>
    obtain ⟨k, rfl, hk, hdk, HBr⟩ := hrel
    have c1 := (HBr.out.cell (p := ⟨bk, off + i * 3, none⟩) hbk).trans HC1.out
    by_cases hlt : k < N
    · have hkC : (0 : Int) ≤ (k : Int) ∧ (k : Int) ≤ C := by omega
      have hkC1 : (k : Int) ≤ C := hkC.2
      have HCk := Lib.hid (HCE.out k hkC)
      have HLk := Lib.hid (HLF.out k hkC)
      go_wp2_with fail
      clear c1
      refine (HFW.out _ k hkC HBr.out).mono ?_
      rintro e w1 ⟨g1, g2, v, rfl, hrr, hb, -⟩
      replace HBr := Lib.hid (bThen HBr.out hb)
      have HRR := Lib.hid hrr
      obtain ⟨t1, n1, c1, t2, n2, c2, rfl, -, -⟩ := hrr.ex
      clear hb hrr
      go_wp2_with fail
      refine (HRI.out _).mono ?_
      rintro e w2 ⟨b1, b2, v, rfl, hrr, hb, -⟩
      replace HBr := Lib.hid (bThen HBr.out hb)
      replace HRR := Lib.hid (HRR.out.to hb)
      have HR2 := Lib.hid hrr
      obtain ⟨u1, m1, d1, u2, m2, d2, rfl, -, -⟩ := hrr.ex
      clear hb hrr
      go_wp2_with fail
      have HCK := Lib.hid (HCM.out w2 _ _ _ _ _ _ _ HRR.out HR2.out HLk.out.1 HLk.out.2.1)
      obtain ⟨sg, hsg⟩ : ∃ x, ((rPr (lowV l) k).1 * 1 - fl * (rPr (lowV l) k).2).sign = x := ⟨_, rfl⟩
      rw [hsg] at HCk
      have HCK2 : Hid (Calls Tryz.prog 105 #[.agg #[.int .i64 t1, .slice g1 n1 c1, .int .i64 t2, .slice g2 n2 c2], .agg #[.int .i64 u1, .slice b1 m1 d1, .int .i64 u2, .slice b2 m2 d2]] w2 fun e w' => e = .returned (.int .i64 sg) ∧ Below w2.heap.size w2 w') := Lib.hid (by rw [← hsg]; exact HCK.out)
      clear hsg HCK
      refine HCK2.out.mono ?_
      rintro e w3 ⟨rfl, hb⟩
      replace HBr := Lib.hid (bThen HBr.out hb)
      clear hb HCK2
      cases hl : lessQ (prQ (lowV l) k) (fl, 1) with
      | true =>
        have HS := Lib.hid (drpQ_step hlt hl)
        have hneg : sg < 0 := by have := HCk.out; rw [hl] at this; simp at this; exact this
        clear hl
        go_wp2_with fail
        go_roundw
        case rel => exact ⟨k + 1, by go_num, by omega, Lib.hid (hdk.out.trans HS.out), HBr⟩
        case measure => simp [intOf]; omega
      | false =>
        have HS := Lib.hid (drpQ_stop hlt hl)
        have hpos : 0 ≤ sg := by have := HCk.out; rw [hl] at this; simpa using this
        clear hl
        have hR := hdk.out.trans HS.out
        subst hR
        go_wp2_with fail
        go_ret2
        exact ⟨rfl, HBr.out⟩
    · obtain rfl : k = N := by omega
      have hR : dr = none := by rw [hdk.out, Nat.sub_self]; rfl
      subst hR
      have hlt3 : C < (k : Int) := by omega
      go_wp2_with fail
      go_ret2
      exact ⟨rfl, HBr.out⟩

end Go.Proofs.YtjfedpblkejmkaaGreat

/-
  Plain laws for OilValves: what the program answers.
-/
namespace Go.Proofs.YtjfedpblkejmkaaGreat
open Go.RowKit

theorem vl_bad {l : List (Int × Int × Int)} (h : (chVl l).2 ≠ 0) (a b fl : Int) : drpE l a b = (chVl l).2 ∧ flwO l a b = (0, 0) ∧ drfR l fl = (0, (chVl l).2) := by
  have e1 : drpE l a b = (chVl l).2 := by unfold drpE firstE; rw [if_neg h]
  have e2 : drfE l fl = (chVl l).2 := by unfold drfE firstE; rw [if_neg h]
  exact ⟨e1, by unfold flwO; rw [e1, if_neg h], by unfold drfR; rw [e2, if_neg h]⟩
theorem vl_no {l : List (Int × Int × Int)} {a b : Int} (h : drpE l a b ≠ 0) : flwO l a b = (0, 0) := by unfold flwO; rw [if_neg h]
theorem vl_yes {l : List (Int × Int × Int)} {a b : Int} (h : drpE l a b = 0) : flwO l a b = flwA l a b ∧ VlvOk l ∧ 0 ≤ a ∧ a ≤ b ∧ b ≤ capV (uppV l) ∧ b ≤ capV (lowV l) := by
  obtain ⟨h1, h2, h3, h4, h5⟩ := drpE_ok h
  exact ⟨by unfold flwO; rw [if_pos h], h1, h2, h3, h4, h5⟩
theorem drp_of {l : List (Int × Int × Int)} (h0 : (chVl l).2 = 0) {a b : Int} (h1 : 0 ≤ a) (h2 : a ≤ b) (h3 : b ≤ lstV l l.length) : drpE l a b = 0 := by
  rw [drp_val h0, wthn_iff.2 ⟨h1, by omega⟩, wthn_iff.2 ⟨by omega, h3⟩, if_neg (by decide), if_neg (by decide), if_neg (by omega)]
theorem vl_cap {l : List (Int × Int × Int)} (h0 : (chVl l).2 = 0) : capV (lowV l) = lstV l l.length ∧ capV (uppV l) = lstV l l.length ∧ 0 ≤ lstV l l.length ∧ lstV l l.length ≤ 1000 := by
  obtain ⟨hv, h2, h8⟩ := chVl_ok h0
  obtain ⟨c1, c2⟩ := lst_cap (l := l) (by omega)
  have hl : LinOk (lowV l) := hv.lo
  have := hl.vol ((lowV l).length - 1) (by have := hl.two; omega)
  refine ⟨c1, c2, ?_, ?_⟩
  · rw [← c1]; exact this.1
  · rw [← c1]; exact this.2
theorem vl_wide {l : List (Int × Int × Int)} {a b : Int} (h0 : (chVl l).2 = 0) (h : drpE l a b = 0) : drpE l (max 0 (a - 1)) (min (lstV l l.length) (b + 1)) = 0 ∧ (flwO l (max 0 (a - 1)) (min (lstV l l.length) (b + 1))).1 ≤ (flwO l a b).1 ∧ (flwO l a b).2 ≤ (flwO l (max 0 (a - 1)) (min (lstV l l.length) (b + 1))).2 := by
  obtain ⟨e1, hv, h1, h2, h3, h4⟩ := vl_yes h
  obtain ⟨c1, c2, c3, c4⟩ := vl_cap h0
  rw [c1] at h4
  rw [c2] at h3
  have hd : drpE l (max 0 (a - 1)) (min (lstV l l.length) (b + 1)) = 0 := drp_of h0 (by omega) (by omega) (by omega)
  obtain ⟨e2, -⟩ := vl_yes hd
  rw [e1, e2]
  exact ⟨hd, flw_wide hv (by omega) (by omega) (by rw [c1]; omega) (by omega) (by omega) (by rw [c2]; omega)⟩
theorem vl_fl {l : List (Int × Int × Int)} (h0 : (chVl l).2 = 0) (fl : Int) : drfE l fl = unl (wthn fl 0 50) 2 := by
  unfold drfE firstE; rw [if_pos h0]; unfold firstE; cases wthn fl 0 50 <;> rfl
theorem vl_bound {l : List (Int × Int × Int)} {fl : Int} (h0 : (chVl l).2 = 0) (hf : wthn fl 0 50 = false) : drfR l fl = (0, 2) := by
  unfold drfR; rw [vl_fl h0, hf]; rfl
theorem vl_none {l : List (Int × Int × Int)} {fl : Int} (h0 : (chVl l).2 = 0) (hf : wthn fl 0 50 = true) (hd : drfD l fl = none) : drfR l fl = (0, 12) := by
  unfold drfR; rw [vl_fl h0, hf, hd]; rfl
theorem vl_some {l : List (Int × Int × Int)} {fl : Int} {d : Nat} (h0 : (chVl l).2 = 0) (hf : wthn fl 0 50 = true) (hd : drfD l fl = some d) : drfR l fl = ((d : Int), 0) ∧ (d : Int) ≤ 1000 ∧ drpE l d d = 0 ∧ fl ≤ (flwO l d d).1 ∧ ∀ j : Nat, j + 1 = d → drpE l j j = 0 ∧ (flwO l j j).1 < fl := by
  obtain ⟨c1, c2, c3, c4⟩ := vl_cap h0
  have hv := (chVl_ok h0).1
  have hl : LinOk (lowV l) := hv.lo
  obtain ⟨-, h2, h3, h4⟩ := drpQ_some (show drpQ (lowV l) fl 0 (capV (lowV l) + 1).toNat = some d from hd)
  rw [c1] at h2
  have hdc : (d : Int) ≤ lstV l l.length := by omega
  have hz := drp_of h0 (show (0 : Int) ≤ (d : Int) by omega) (Int.le_refl (d : Int)) hdc
  have key : ∀ j : Nat, j ≤ d → (flQ (prQ (lowV l) j) < fl ↔ lessQ (prQ (lowV l) j) (fl, 1) = true) := fun j hj => flow_iff hl (by omega) (by rw [c1]; omega)
  refine ⟨by unfold drfR; rw [vl_fl h0, hf, hd]; rfl, by omega, hz, ?_, fun j hj => ?_⟩
  · rw [(vl_yes hz).1]
    show fl ≤ flQ (prQ (lowV l) d)
    have := key d (Nat.le_refl _)
    rw [h3] at this
    have h5 : ¬ flQ (prQ (lowV l) d) < fl := fun h => by have := this.1 h; simp at this
    omega
  · have hz2 := drp_of h0 (show (0 : Int) ≤ (j : Int) by omega) (Int.le_refl (j : Int)) (by omega)
    refine ⟨hz2, ?_⟩
    rw [(vl_yes hz2).1]
    exact (key j (by omega)).2 (h4 j (by omega) (by omega))

end Go.Proofs.YtjfedpblkejmkaaGreat

/-
  OilValves.
-/
namespace Go.Proofs.YtjfedpblkejmkaaGreat
open Go.RowKit
attribute [local go_sem] Oper.semAt_some

set_option maxHeartbeats 12800000 in
set_option maxRecDepth 100000 in
theorem OilValves_any (l : List (Int × Int × Int)) (a b fl : Int) (al : Option Addr) (cap : Nat) (w : World) (hr : Reads w al (l.length * 3) (flws l)) :
    Calls Tryz.prog 6 #[.slice al l.length cap, .agg #[.int .i64 a, .int .i64 b], .int .i64 fl] w fun e w' => e = .returned (.bool true) ∧ Below w.heap.size w w' := by
  have HAW := Lib.hid (fun W => oAwake_any W)
  have HCPY := Lib.hid (fun W (h10 : l.length ≤ 10) (hb : Below w.heap.size w W) => rCopyValve_any l al cap W (by omega) (hr.to hb))
  have HCK := Lib.hid (fun W a1 c1 (h10 : l.length ≤ 10) h1 => CheckValve_any l a1 c1 W (by omega) h1)
  have HRC := Lib.hid (fun W (h10 : l.length ≤ 10) (hb : Below w.heap.size w W) => rCheckValve_any l al cap W (by omega) (hr.to hb))
  have HFI := Lib.hid (fun W a1 c1 (x y : Int) (h10 : l.length ≤ 10) h1 => FlowIn_any l x y a1 c1 W (by omega) h1)
  have HDF := Lib.hid (fun W a1 c1 (h10 : l.length ≤ 10) h1 => DropFor_any l fl a1 c1 W (by omega) h1)
  have HDE := Lib.hid (fun W (h0 : (chVl l).2 = 0) (hb : Below w.heap.size w W) => rDropErr_any l a b al cap W h0 (hr.to hb))
  have HFS := Lib.hid (fun W (h : drpE l a b = 0) (hb : Below w.heap.size w W) => rFlows_any l a b al cap W (vl_yes h).2.1 ⟨(vl_yes h).2.2.1, by have := vl_yes h; omega⟩ ⟨by have := vl_yes h; omega, (vl_yes h).2.2.2.2.1⟩ (hr.to hb))
  have HRD := Lib.hid (fun W (h0 : (chVl l).2 = 0) (hf : 0 ≤ fl ∧ fl ≤ 50) (hb : Below w.heap.size w W) => rDropFor_any l fl al cap W (chVl_ok h0).1 hf (hr.to hb))
  have HBAD := Lib.hid (fun (h : (chVl l).2 ≠ 0) => vl_bad h a b fl)
  have HNO := Lib.hid (fun (h : drpE l a b ≠ 0) => vl_no h)
  have HYES := Lib.hid (fun (h : drpE l a b = 0) => vl_yes h)
  have HWI := Lib.hid (fun (h0 : (chVl l).2 = 0) (h : drpE l a b = 0) => vl_wide h0 h)
  have HCAP := Lib.hid (fun (h0 : (chVl l).2 = 0) => vl_cap h0)
  have HOK2 := Lib.hid (fun (h0 : (chVl l).2 = 0) => (chVl_ok h0).2)
  have HV1 := Lib.hid (fun (h : (chVl l).2 = 0) (hy : wthn fl 0 50 = false) => vl_bound h hy)
  have HV2 := Lib.hid (fun (h : (chVl l).2 = 0) (hy : wthn fl 0 50 = true) (hd : drfD l fl = none) => vl_none h hy hd)
  have HV3 := Lib.hid (fun (d : Nat) (h : (chVl l).2 = 0) (hy : wthn fl 0 50 = true) (hd : drfD l fl = some d) => vl_some h hy hd)
  have HFE := Lib.hid (fun W => rFlowErr_any fl W)
  have HR := Lib.hid hr
  have HLV := Lib.hid (fun j (h : l.length = j + 1) => lst_vg h)
  obtain ⟨n, hn⟩ : ∃ n, l.length = n := ⟨_, rfl⟩
  obtain ⟨c1, hc1⟩ : ∃ n, (chVl l).1 = n := ⟨_, rfl⟩
  obtain ⟨c2, hc2⟩ : ∃ n, (chVl l).2 = n := ⟨_, rfl⟩
  obtain ⟨de, hde⟩ : ∃ n, drpE l a b = n := ⟨_, rfl⟩
  obtain ⟨rg, hrg⟩ : ∃ n, flwO l a b = n := ⟨_, rfl⟩
  obtain ⟨fa, hfa⟩ : ∃ n, flwA l a b = n := ⟨_, rfl⟩
  obtain ⟨df, hdf⟩ : ∃ n, drfR l fl = n := ⟨_, rfl⟩
  obtain ⟨bl, hbl⟩ : ∃ n, wthn fl 0 50 = n := ⟨_, rfl⟩
  obtain ⟨vd, hvd⟩ : ∃ n, drfD l fl = n := ⟨_, rfl⟩
  obtain ⟨ls, hls⟩ : ∃ n, lstV l l.length = n := ⟨_, rfl⟩
  have HBLE := Lib.hid hbl
  have HF1 := Lib.hid (fun W a1 c1 h10 h1 => HFI.out W a1 c1 a b h10 h1)
  rw [hls] at HWI HCAP HLV
  rw [hn] at HCPY HCK HRC HFI HF1 HDF HDE HFS HRD HR HOK2 HLV ⊢
  rw [hc1, hc2] at HCK HRC
  rw [hc2] at HDE HRD HBAD HWI HCAP HOK2 HV1 HV2 HV3
  rw [hde] at HF1 HDE HFS HBAD HNO HYES HWI
  rw [hrg] at HF1 HBAD HNO HYES HWI
  rw [hfa] at HFS HYES
  rw [hdf] at HDF HBAD HV1 HV2 HV3
  rw [hbl] at HFE HV1 HV2 HV3
  rw [hvd] at HRD HV2 HV3
  clear hn hc1 hc2 hde hrg hfa hdf hbl hvd hls hr
  obtain ⟨f1, f2⟩ := rg
  obtain ⟨e1, e2⟩ := df
  obtain ⟨u1, u2⟩ := fa
  dsimp only at HF1 HDF HFS
  go_enter Tryz.func6, Tryz.ntmps6
  go_wp2_with fail
  obtain ⟨W, hW⟩ : ∃ W, w.alloc (.cells #[.int .i64 a, .int .i64 b] 25) = W := ⟨_, rfl⟩
  rw [hW]
  have K4 : Hid (Blk W w.heap.size #[.int .i64 a, .int .i64 b]) := by subst hW; exact Lib.hid (Blk.new _ _ _)
  have HB : Hid (Below w.heap.size w W) := by subst hW; exact Lib.hid (bAlloc (bSelf w) _)
  clear hW
  refine (HAW.out _).mono ?_
  rintro e y1 ⟨rfl, hb⟩
  replace K4 := Lib.hid (K4.out.to hb)
  replace HB := Lib.hid (bThen HB.out hb)
  clear hb HAW
  by_cases h10 : n ≤ 10
  case neg =>
    have h10' : (10 : Int) < (n : Int) := by omega
    go_wp2_with fail
    go_ret
    exact ⟨rfl, HB.out⟩
  replace HCPY := Lib.hid (fun W => HCPY.out W h10)
  replace HCK := Lib.hid (fun W a1 c1 => HCK.out W a1 c1 h10)
  replace HRC := Lib.hid (fun W => HRC.out W h10)
  replace HFI := Lib.hid (fun W a1 c1 x y => HFI.out W a1 c1 x y h10)
  replace HF1 := Lib.hid (fun W a1 c1 => HF1.out W a1 c1 h10)
  replace HDF := Lib.hid (fun W a1 c1 => HDF.out W a1 c1 h10)
  go_wp2_with fail
  refine (HCPY.out _ HB.out).mono ?_
  rintro e y3 ⟨a1, c3, rfl, -, hr1, hb, -⟩
  replace K4 := Lib.hid (K4.out.to hb)
  replace HB := Lib.hid (bThen HB.out hb)
  have HR1 := Lib.hid hr1
  clear hr1 hb
  go_wp2_with fail
  refine (HCK.out _ _ _ HR1.out).mono ?_
  rintro e y4 ⟨rfl, hb⟩
  replace K4 := Lib.hid (K4.out.to hb)
  replace HB := Lib.hid (bThen HB.out hb)
  clear hb HR1 HCK
  go_wp2_with fail
  go_cut [9, 10] from 34 to 40 (fun s9 s10 wc => ∃ B, s9 = .pointer (some ⟨B, 0, none⟩) ∧ s10 = .int .i64 de ∧ Hid (Blk wc B #[.int .i64 f1, .int .i64 f2]) ∧ Hid (Below y4.heap.size y4 wc))
  case first =>
    refine wp_region_tree (by kernel_rfl) (fun wd hwd => ?_)
    have T := Lib.hid hwd
    clear hwd
    refine WT_yes 0 rfl (by kernel_rfl) (fun _ _ _ _ _ h => h) (by rfl) ?_; apply Exists.intro; refine ⟨fun w1 hb1 => ?_, ?_⟩; (focus ((skip; have hb1 := Lib.hid hb1; go_simp); (try (go_bits; try go_simp)); (try (rw [if_pos (by omega)]; try go_simp)); (first | done | (fail) | (with_reducible rfl) | exact rfl)))
    simp only [Act.put, List.setIfInBounds_toArray, List.set_cons_zero, List.set_cons_succ]
    refine WT_yes 2 rfl (by kernel_rfl) (fun _ _ _ _ _ h => h) (by rfl) ?_; apply Exists.intro; refine ⟨fun w1 hb1 => ?_, ?_⟩; (focus (((obtain ⟨-, k4, -⟩ := K4.out.to (T.out.trans hb1)); have hb1 := Lib.hid hb1; go_simp); (try (go_bits; try go_simp)); (try (rw [if_pos (by omega)]; try go_simp)); (first | done | (fail) | (with_reducible rfl) | exact rfl)))
    simp only [Act.put, List.setIfInBounds_toArray, List.set_cons_zero, List.set_cons_succ]
    refine WT_two 1 7 rfl rfl (by kernel_rfl) ?_ ?_
    · unfold stepT
      go_wp2_with fail
      refine (HCPY.out _ (bThen HB.out T.out)).mono ?_
      rintro e u1 ⟨a1, c3, rfl, -, hr1, hb, -⟩
      have HR1 := Lib.hid hr1
      clear hr1
      have hbd := Lib.hid (hb.mono T.out.size)
      replace T := Lib.hid (bThen T.out hb)
      clear hb
      go_wp2_with fail
      refine ⟨hbd.out, ?_⟩
      clear hbd
      refine WT_two 3 7 rfl rfl (by kernel_rfl) ?_ ?_
      · unfold stepT
        go_wp2_with fail
        refine (HF1.out _ _ _ HR1.out).mono ?_
        rintro e u2 ⟨rfl, hb⟩
        replace HR1 := Lib.hid (HR1.out.to hb)
        have hbd := Lib.hid (hb.mono T.out.size)
        replace T := Lib.hid (bThen T.out hb)
        clear hb
        go_wp2_with fail
        refine ⟨hbd.out, ?_⟩
        clear hbd
        refine WT_yes 4 rfl (by kernel_rfl) (fun _ _ _ _ _ h => h) (by rfl) ?_; apply Exists.intro; refine ⟨fun w1 hb1 => ?_, ?_⟩; (focus ((skip; have hb1 := Lib.hid hb1; go_simp); (try (go_bits; try go_simp)); (try (rw [if_pos (by omega)]; try go_simp)); (first | done | (fail) | (with_reducible rfl) | exact rfl)))
        simp only [Act.put, List.setIfInBounds_toArray, List.set_cons_zero, List.set_cons_succ]
        refine WT_yes 5 rfl (by kernel_rfl) (fun _ _ _ _ _ h => h) (by rfl) ?_; apply Exists.intro; refine ⟨fun w1 hb1 => ?_, ?_⟩; (focus ((skip; have hb1 := Lib.hid hb1; go_simp); (try (go_bits; try go_simp)); (try (rw [if_pos (by omega)]; try go_simp)); (first | done | (fail) | (with_reducible rfl) | exact rfl)))
        simp only [Act.put, List.setIfInBounds_toArray, List.set_cons_zero, List.set_cons_succ]
        refine WT_yes 6 rfl (by kernel_rfl) (fun _ _ _ _ _ h => h) (by rfl) ?_; apply Exists.intro; refine ⟨fun w1 hb1 => ?_, ?_⟩; (focus ((skip; have hb1 := Lib.hid hb1; go_simp); (try (go_bits; try go_simp)); (try (rw [if_pos (by omega)]; try go_simp)); (first | done | (fail) | (with_reducible rfl) | exact rfl)))
        simp only [Act.put, List.setIfInBounds_toArray, List.set_cons_zero, List.set_cons_succ]
        refine WT_one 7 rfl (by kernel_rfl) ?_
        unfold stepT
        go_wp2_with fail
        obtain ⟨u3, hwA⟩ : ∃ wA, u2.alloc (.cells #[.int .i64 0, .int .i64 0] 25) = wA := ⟨_, rfl⟩
        rw [hwA]
        have hb : Below u2.heap.size u2 u3 := by subst hwA; exact bAlloc (bSelf _) _
        replace HR1 := Lib.hid (HR1.out.to hb)
        have KBN : Hid (Blk u3 u2.heap.size #[.int .i64 0, .int .i64 0]) := by subst hwA; exact Blk.new _ _ _
        clear hwA
        have BNN : Hid (y4.heap.size ≤ u2.heap.size) := Lib.hid T.out.size
        obtain ⟨BN, hBN⟩ : ∃ N, u2.heap.size = N := ⟨_, rfl⟩
        have hbd := Lib.hid (hb.mono T.out.size)
        replace T := Lib.hid (bThen T.out hb)
        clear hb
        rw [hBN] at KBN BNN  ⊢
        clear hBN
        refine ⟨hbd.out, ?_⟩
        clear hbd
        refine WT_one 8 rfl (by kernel_rfl) ?_
        unfold stepT
        obtain ⟨-, kx, fx⟩ := KBN.out
        go_wp2_with fail
        clear kx fx
        obtain ⟨u4, hu⟩ : ∃ u, (u3.setCell ⟨BN, 0, none⟩ (.int .i64 f1)).setCell ⟨BN, 1, none⟩ (.int .i64 f2) = u := ⟨_, rfl⟩
        have hb : Below y4.heap.size u3 u4 := by rw [← hu]; exact ((Below.refl _ _).setCell (p := ⟨BN, 0, none⟩) BNN.out _).setCell (p := ⟨BN, 1, none⟩) BNN.out _
        replace KBN := Lib.hid ((KBN.out.set 0 (.int .i64 f1)).set 1 (.int .i64 f2))
        rw [hu] at KBN ⊢
        clear hu
        replace T := Lib.hid (T.out.trans hb)
        refine ⟨hb, ?_⟩
        clear hb
        refine WT_yes 9 rfl (by kernel_rfl) (fun _ _ _ _ _ h => h) (by rfl) ?_; apply Exists.intro; refine ⟨fun w1 hb1 => ?_, ?_⟩; (focus ((skip; have hb1 := Lib.hid hb1; go_simp); (try (go_bits; try go_simp)); (try (rw [if_pos (by omega)]; try go_simp)); (first | done | (fail) | (with_reducible rfl) | exact rfl)))
        simp only [Act.put, List.setIfInBounds_toArray, List.set_cons_zero, List.set_cons_succ]
        refine WT_done (by kernel_rfl) ?_
        go_wp2_with fail
        go_meet
        case rel => exact ⟨BN, rfl, rfl, KBN, T⟩
      · unfold stepT
        go_wp2_with fail
        obtain ⟨u2, hwA⟩ : ∃ wA, u1.alloc (.cells #[.int .i64 0, .int .i64 0] 25) = wA := ⟨_, rfl⟩
        rw [hwA]
        have hb : Below u1.heap.size u1 u2 := by subst hwA; exact bAlloc (bSelf _) _
        replace HR1 := Lib.hid (HR1.out.to hb)
        have KBN : Hid (Blk u2 u1.heap.size #[.int .i64 0, .int .i64 0]) := by subst hwA; exact Blk.new _ _ _
        clear hwA
        have BNN : Hid (y4.heap.size ≤ u1.heap.size) := Lib.hid T.out.size
        obtain ⟨BN, hBN⟩ : ∃ N, u1.heap.size = N := ⟨_, rfl⟩
        have hbd := Lib.hid (hb.mono T.out.size)
        replace T := Lib.hid (bThen T.out hb)
        clear hb
        rw [hBN] at KBN BNN  ⊢
        clear hBN
        refine ⟨hbd.out, ?_⟩
        clear hbd
        refine WT_one 3 rfl (by kernel_rfl) ?_
        unfold stepT
        go_wp2_with fail
        refine (HF1.out _ _ _ HR1.out).mono ?_
        rintro e u3 ⟨rfl, hb⟩
        replace KBN := Lib.hid (KBN.out.to hb)
        replace HR1 := Lib.hid (HR1.out.to hb)
        have hbd := Lib.hid (hb.mono T.out.size)
        replace T := Lib.hid (bThen T.out hb)
        clear hb
        go_wp2_with fail
        refine ⟨hbd.out, ?_⟩
        clear hbd
        refine WT_yes 4 rfl (by kernel_rfl) (fun _ _ _ _ _ h => h) (by rfl) ?_; apply Exists.intro; refine ⟨fun w1 hb1 => ?_, ?_⟩; (focus ((skip; have hb1 := Lib.hid hb1; go_simp); (try (go_bits; try go_simp)); (try (rw [if_pos (by omega)]; try go_simp)); (first | done | (fail) | (with_reducible rfl) | exact rfl)))
        simp only [Act.put, List.setIfInBounds_toArray, List.set_cons_zero, List.set_cons_succ]
        refine WT_yes 5 rfl (by kernel_rfl) (fun _ _ _ _ _ h => h) (by rfl) ?_; apply Exists.intro; refine ⟨fun w1 hb1 => ?_, ?_⟩; (focus ((skip; have hb1 := Lib.hid hb1; go_simp); (try (go_bits; try go_simp)); (try (rw [if_pos (by omega)]; try go_simp)); (first | done | (fail) | (with_reducible rfl) | exact rfl)))
        simp only [Act.put, List.setIfInBounds_toArray, List.set_cons_zero, List.set_cons_succ]
        refine WT_yes 6 rfl (by kernel_rfl) (fun _ _ _ _ _ h => h) (by rfl) ?_; apply Exists.intro; refine ⟨fun w1 hb1 => ?_, ?_⟩; (focus ((skip; have hb1 := Lib.hid hb1; go_simp); (try (go_bits; try go_simp)); (try (rw [if_pos (by omega)]; try go_simp)); (first | done | (fail) | (with_reducible rfl) | exact rfl)))
        simp only [Act.put, List.setIfInBounds_toArray, List.set_cons_zero, List.set_cons_succ]
        refine WT_one 8 rfl (by kernel_rfl) ?_
        unfold stepT
        obtain ⟨-, kx, fx⟩ := KBN.out
        go_wp2_with fail
        clear kx fx
        obtain ⟨u4, hu⟩ : ∃ u, (u3.setCell ⟨BN, 0, none⟩ (.int .i64 f1)).setCell ⟨BN, 1, none⟩ (.int .i64 f2) = u := ⟨_, rfl⟩
        have hb : Below y4.heap.size u3 u4 := by rw [← hu]; exact ((Below.refl _ _).setCell (p := ⟨BN, 0, none⟩) BNN.out _).setCell (p := ⟨BN, 1, none⟩) BNN.out _
        replace KBN := Lib.hid ((KBN.out.set 0 (.int .i64 f1)).set 1 (.int .i64 f2))
        rw [hu] at KBN ⊢
        clear hu
        replace T := Lib.hid (T.out.trans hb)
        refine ⟨hb, ?_⟩
        clear hb
        refine WT_yes 9 rfl (by kernel_rfl) (fun _ _ _ _ _ h => h) (by rfl) ?_; apply Exists.intro; refine ⟨fun w1 hb1 => ?_, ?_⟩; (focus ((skip; have hb1 := Lib.hid hb1; go_simp); (try (go_bits; try go_simp)); (try (rw [if_pos (by omega)]; try go_simp)); (first | done | (fail) | (with_reducible rfl) | exact rfl)))
        simp only [Act.put, List.setIfInBounds_toArray, List.set_cons_zero, List.set_cons_succ]
        refine WT_done (by kernel_rfl) ?_
        go_wp2_with fail
        go_meet
        case rel => exact ⟨BN, rfl, rfl, KBN, T⟩
    · unfold stepT
      go_wp2_with fail
      obtain ⟨u1, hwA⟩ : ∃ wA, wd.alloc (.cells #[.int .i64 0, .int .i64 0] 25) = wA := ⟨_, rfl⟩
      rw [hwA]
      have hb : Below wd.heap.size wd u1 := by subst hwA; exact bAlloc (bSelf _) _
      have KBN : Hid (Blk u1 wd.heap.size #[.int .i64 0, .int .i64 0]) := by subst hwA; exact Blk.new _ _ _
      clear hwA
      have BNN : Hid (y4.heap.size ≤ wd.heap.size) := Lib.hid T.out.size
      obtain ⟨BN, hBN⟩ : ∃ N, wd.heap.size = N := ⟨_, rfl⟩
      have hbd := Lib.hid (hb.mono T.out.size)
      replace T := Lib.hid (bThen T.out hb)
      clear hb
      rw [hBN] at KBN BNN  ⊢
      clear hBN
      refine ⟨hbd.out, ?_⟩
      clear hbd
      refine WT_one 1 rfl (by kernel_rfl) ?_
      unfold stepT
      go_wp2_with fail
      refine (HCPY.out _ (bThen HB.out T.out)).mono ?_
      rintro e u2 ⟨a1, c3, rfl, -, hr1, hb, -⟩
      replace KBN := Lib.hid (KBN.out.to hb)
      have HR1 := Lib.hid hr1
      clear hr1
      have hbd := Lib.hid (hb.mono T.out.size)
      replace T := Lib.hid (bThen T.out hb)
      clear hb
      go_wp2_with fail
      refine ⟨hbd.out, ?_⟩
      clear hbd
      refine WT_one 3 rfl (by kernel_rfl) ?_
      unfold stepT
      go_wp2_with fail
      refine (HF1.out _ _ _ HR1.out).mono ?_
      rintro e u3 ⟨rfl, hb⟩
      replace KBN := Lib.hid (KBN.out.to hb)
      replace HR1 := Lib.hid (HR1.out.to hb)
      have hbd := Lib.hid (hb.mono T.out.size)
      replace T := Lib.hid (bThen T.out hb)
      clear hb
      go_wp2_with fail
      refine ⟨hbd.out, ?_⟩
      clear hbd
      refine WT_yes 4 rfl (by kernel_rfl) (fun _ _ _ _ _ h => h) (by rfl) ?_; apply Exists.intro; refine ⟨fun w1 hb1 => ?_, ?_⟩; (focus ((skip; have hb1 := Lib.hid hb1; go_simp); (try (go_bits; try go_simp)); (try (rw [if_pos (by omega)]; try go_simp)); (first | done | (fail) | (with_reducible rfl) | exact rfl)))
      simp only [Act.put, List.setIfInBounds_toArray, List.set_cons_zero, List.set_cons_succ]
      refine WT_yes 5 rfl (by kernel_rfl) (fun _ _ _ _ _ h => h) (by rfl) ?_; apply Exists.intro; refine ⟨fun w1 hb1 => ?_, ?_⟩; (focus ((skip; have hb1 := Lib.hid hb1; go_simp); (try (go_bits; try go_simp)); (try (rw [if_pos (by omega)]; try go_simp)); (first | done | (fail) | (with_reducible rfl) | exact rfl)))
      simp only [Act.put, List.setIfInBounds_toArray, List.set_cons_zero, List.set_cons_succ]
      refine WT_yes 6 rfl (by kernel_rfl) (fun _ _ _ _ _ h => h) (by rfl) ?_; apply Exists.intro; refine ⟨fun w1 hb1 => ?_, ?_⟩; (focus ((skip; have hb1 := Lib.hid hb1; go_simp); (try (go_bits; try go_simp)); (try (rw [if_pos (by omega)]; try go_simp)); (first | done | (fail) | (with_reducible rfl) | exact rfl)))
      simp only [Act.put, List.setIfInBounds_toArray, List.set_cons_zero, List.set_cons_succ]
      refine WT_one 8 rfl (by kernel_rfl) ?_
      unfold stepT
      obtain ⟨-, kx, fx⟩ := KBN.out
      go_wp2_with fail
      clear kx fx
      obtain ⟨u4, hu⟩ : ∃ u, (u3.setCell ⟨BN, 0, none⟩ (.int .i64 f1)).setCell ⟨BN, 1, none⟩ (.int .i64 f2) = u := ⟨_, rfl⟩
      have hb : Below y4.heap.size u3 u4 := by rw [← hu]; exact ((Below.refl _ _).setCell (p := ⟨BN, 0, none⟩) BNN.out _).setCell (p := ⟨BN, 1, none⟩) BNN.out _
      replace KBN := Lib.hid ((KBN.out.set 0 (.int .i64 f1)).set 1 (.int .i64 f2))
      rw [hu] at KBN ⊢
      clear hu
      replace T := Lib.hid (T.out.trans hb)
      refine ⟨hb, ?_⟩
      clear hb
      refine WT_yes 9 rfl (by kernel_rfl) (fun _ _ _ _ _ h => h) (by rfl) ?_; apply Exists.intro; refine ⟨fun w1 hb1 => ?_, ?_⟩; (focus ((skip; have hb1 := Lib.hid hb1; go_simp); (try (go_bits; try go_simp)); (try (rw [if_pos (by omega)]; try go_simp)); (first | done | (fail) | (with_reducible rfl) | exact rfl)))
      simp only [Act.put, List.setIfInBounds_toArray, List.set_cons_zero, List.set_cons_succ]
      refine WT_done (by kernel_rfl) ?_
      go_wp2_with fail
      go_meet
      case rel => exact ⟨BN, rfl, rfl, KBN, T⟩
  obtain ⟨y5, hwo⟩ : ∃ wo, wo = wc := ⟨_, rfl⟩
  subst hwo
  obtain ⟨B9, rfl, rfl, K9, hb⟩ := hcut
  replace hb := hb.out
  replace K4 := Lib.hid (K4.out.to hb)
  replace HB := Lib.hid (bThen HB.out hb)
  clear hb HF1
  go_wp2_with fail
  refine (HCPY.out _ HB.out).mono ?_
  rintro e y6 ⟨a1, c3, rfl, -, hr1, hb, -⟩
  replace K4 := Lib.hid (K4.out.to hb)
  replace K9 := Lib.hid (K9.out.to hb)
  replace HB := Lib.hid (bThen HB.out hb)
  have HR1 := Lib.hid hr1
  clear hr1 hb
  go_wp2_with fail
  refine (HDF.out _ _ _ HR1.out).mono ?_
  rintro e y7 ⟨rfl, hb⟩
  replace K4 := Lib.hid (K4.out.to hb)
  replace K9 := Lib.hid (K9.out.to hb)
  replace HB := Lib.hid (bThen HB.out hb)
  clear hb HR1 HDF
  go_wp2_with fail
  refine (HRC.out _ HB.out).mono ?_
  rintro e y8 ⟨rfl, hb⟩
  replace K4 := Lib.hid (K4.out.to hb)
  replace K9 := Lib.hid (K9.out.to hb)
  replace HB := Lib.hid (bThen HB.out hb)
  clear hb HRC
  by_cases hc : c2 = 0
  case neg =>
    obtain ⟨rfl, g2, g3⟩ := HBAD.out hc
    cases g2
    cases g3
    obtain ⟨-, k9, -⟩ := K9.out
    have hc' : (de != 0) = true := by simpa using hc
    go_wp2_with fail
    go_ret
    exact ⟨rfl, HB.out⟩
  subst hc
  replace HDE := Lib.hid (fun W => HDE.out W rfl)
  replace HRD := Lib.hid (fun W => HRD.out W rfl)
  replace HWI := Lib.hid (HWI.out rfl)
  obtain ⟨hcl, hcu, hls0, hls1⟩ := HCAP.out rfl
  obtain ⟨hn2, hn8⟩ := HOK2.out rfl
  replace HV1 := Lib.hid (HV1.out rfl)
  replace HV2 := Lib.hid (HV2.out rfl)
  replace HV3 := Lib.hid (fun d => HV3.out d rfl)
  obtain ⟨j, hj⟩ : ∃ j, n = j + 1 := ⟨n - 1, by omega⟩
  subst hj
  obtain ⟨bk, off, rfl, hbk, hcel⟩ := HR.out.at (k := j * 3) (by omega)
  have LC := Lib.hid (hcel (j * 3) (by omega))
  have HCL := Lib.hid hcl
  have HCU := Lib.hid hcu
  have hjj : ((j + 1 : Nat) : Int) - 1 = (j : Int) := by omega
  clear HBAD HCAP HOK2 hcel hcl hcu
  obtain ⟨-, k4, -⟩ := K4.out
  go_wp2_with fail
  clear k4
  refine (HDE.out _ HB.out).mono ?_
  rintro e y9 ⟨rfl, hb⟩
  replace K4 := Lib.hid (K4.out.to hb)
  replace K9 := Lib.hid (K9.out.to hb)
  replace HB := Lib.hid (bThen HB.out hb)
  clear hb HDE
  go_upto_if 84 with (fail)
  go_cut [10, 14, 15, 16] from 84 to 139 (fun _ _ _ _ wc => Hid (Below y9.heap.size y9 wc))
  case first =>
    by_cases hd : de = 0
    case neg =>
      have g := HNO.out hd
      cases g
      have hd' : (de != 0) = true := by simpa using hd
      obtain ⟨-, k9, -⟩ := K9.out
      go_wp2_with fail
      go_meet
      case rel => exact Lib.hid (Below.refl _ _)
    subst hd
    obtain ⟨g1, hvl, ha0, hab, hbu, hbl⟩ := HYES.out rfl
    cases g1
    obtain ⟨w1', w2', w3'⟩ := HWI.out rfl
    replace HFS := Lib.hid (fun W => HFS.out W rfl)
    rw [HCL.out] at hbl
    obtain ⟨m1, hm1⟩ : ∃ m, max 0 (a - 1) = m := ⟨_, rfl⟩
    obtain ⟨m2, hm2⟩ : ∃ m, min ls (b + 1) = m := ⟨_, rfl⟩
    rw [hm1, hm2] at w1' w2' w3'
    have HFW := Lib.hid (fun W a1 c1 h => HFI.out W a1 c1 m1 m2 h)
    obtain ⟨⟨x1, x2⟩, hx⟩ : ∃ x, flwO l m1 m2 = x := ⟨_, rfl⟩
    rw [hx] at HFW w2' w3'
    rw [w1'] at HFW
    dsimp only at HFW w2' w3'
    have HM1 := Lib.hid hm1
    have HM2 := Lib.hid hm2
    have HLJ := HLV.out j rfl
    have C0 : Hid (y9.cell? ⟨bk, off + j * 3, none⟩ = some (.int .i64 ls)) := Lib.hid ((HB.out.cell (p := ⟨bk, off + j * 3, none⟩) hbk).trans (by rw [LC.out, flws0, ← HLJ]))
    have hbk2 : bk < y9.heap.size := Nat.lt_of_lt_of_le hbk HB.out.size
    clear hvl hm1 hm2 hx w1' HLJ HNO HYES HWI HFI HLV LC hbu HV1 HV2 HV3 HRD
    have HY : Hid (Below y9.heap.size y9 y9) := Lib.hid (Below.refl _ _)
    go_wp2_with fail
    refine wp_region_quiet_all (fun w' => Below (World.heap y9).size (y9) w') (by kernel_rfl) (by kernel_rfl) (Below.refl _ _).drew ?_
    refine WQ.out ?_
    repeat (first | (refine WQ_no (by rfl) ?_; (simp only [Act.put, List.setIfInBounds_toArray, List.set_cons_zero, List.set_cons_succ])) | (refine WQ_yes (by rfl) ?_; apply Exists.intro; refine ⟨fun w1 hb1 => ?_, ?_⟩; (focus (((obtain ⟨-, k4, -⟩ := K4.out.to hb1; obtain ⟨-, k9, -⟩ := K9.out.to hb1); have hb1 := Lib.hid hb1; go_simp); (try (go_bits; try go_simp)); (try (rw [if_pos (by omega)]; try go_simp)); (first | done | ((go_at_call 50; refine (HFS.out _ (bThen HB.out hb1.out)).mono ?_; rintro e w' ⟨rfl, hb⟩; exact ⟨rfl, bThen hb1.out hb⟩)) | (with_reducible rfl) | exact rfl))); (simp only [Act.put, List.setIfInBounds_toArray, List.set_cons_zero, List.set_cons_succ])))
    refine WQ_nil ?_
    intro w1 hb1
    have hb := hb1
    have C1 : Hid (w1.cell? ⟨bk, off + j * 3, none⟩ = some (.int .i64 ls)) := Lib.hid ((hb.cell (p := ⟨bk, off + j * 3, none⟩) hbk2).trans C0.out)
    have hbk3 : bk < w1.heap.size := Nat.lt_of_lt_of_le hbk2 hb.size
    replace K4 := Lib.hid (K4.out.to hb)
    replace K9 := Lib.hid (K9.out.to hb)
    replace HB := Lib.hid (bThen HB.out hb)
    replace HY := Lib.hid (bThen HY.out hb)
    clear hb hb1 HFS C0 hbk2
    go_upto_region 19 with (fail)
    go_cut [15, 16] from 102 to 123 (fun s15 s16 wc => ∃ B, s15 = .pointer (some ⟨B, 0, none⟩) ∧ s16 = .int .i64 0 ∧ Hid (Blk wc B #[.int .i64 x1, .int .i64 x2]) ∧ Hid (Below w1.heap.size w1 wc))
    case first =>
      refine wp_region_tree (by kernel_rfl) (fun wd hwd => ?_)
      have T := Lib.hid hwd
      clear hwd
      refine WT_yes 0 rfl (by kernel_rfl) (fun _ _ _ _ _ h => h) (by rfl) ?_; apply Exists.intro; refine ⟨fun w1 hb1 => ?_, ?_⟩; (focus ((skip; have hb1 := Lib.hid hb1; go_simp); (try (go_bits; try go_simp)); (try (rw [if_pos (by omega)]; try go_simp)); (first | done | (fail) | (with_reducible rfl) | exact rfl)))
      simp only [Act.put, List.setIfInBounds_toArray, List.set_cons_zero, List.set_cons_succ]
      refine WT_yes 2 rfl (by kernel_rfl) (fun _ _ _ _ _ h => h) (by rfl) ?_; apply Exists.intro; refine ⟨fun w1 hb1 => ?_, ?_⟩; (focus (((obtain ⟨-, k4, -⟩ := K4.out.to (T.out.trans hb1)); have hb1 := Lib.hid hb1; go_simp); (try (go_bits; try go_simp)); (try (rw [if_pos (by omega)]; try go_simp)); (first | done | (fail) | (with_reducible rfl) | exact rfl)))
      simp only [Act.put, List.setIfInBounds_toArray, List.set_cons_zero, List.set_cons_succ]
      refine WT_yes 3 rfl (by kernel_rfl) (fun _ _ _ _ _ h => h) (by rfl) ?_; apply Exists.intro; refine ⟨fun w1 hb1 => ?_, ?_⟩; (focus (((obtain ⟨-, k4, -⟩ := K4.out.to (T.out.trans hb1)); have hb1 := Lib.hid hb1; go_simp); (try (go_bits; try go_simp)); (try (rw [if_pos (by omega)]; try go_simp)); (first | done | (fail) | (with_reducible rfl) | exact rfl)))
      simp only [Act.put, List.setIfInBounds_toArray, List.set_cons_zero, List.set_cons_succ]
      refine WT_yes 4 rfl (by kernel_rfl) (fun _ _ _ _ _ h => h) (by rfl) ?_; apply Exists.intro; refine ⟨fun w1 hb1 => ?_, ?_⟩; (focus ((skip; have hb1 := Lib.hid hb1; go_simp); (try (go_bits; try go_simp)); (try (rw [if_pos (by omega)]; try go_simp)); (first | done | (fail) | (with_reducible rfl) | exact rfl)))
      simp only [Act.put, List.setIfInBounds_toArray, List.set_cons_zero, List.set_cons_succ]
      refine WT_yes 5 rfl (by kernel_rfl) (fun _ _ _ _ _ h => h) (by rfl) ⟨.int .i64 m1, fun w1 hb1 => (by have hm := HM1.out; go_simp; try (split <;> omega)), ?_⟩
      simp only [Act.put, List.setIfInBounds_toArray, List.set_cons_zero, List.set_cons_succ]
      refine WT_yes 6 rfl (by kernel_rfl) (fun _ _ _ _ _ h => h) (by rfl) ?_; apply Exists.intro; refine ⟨fun w1 hb1 => ?_, ?_⟩; (focus ((skip; have hb1 := Lib.hid hb1; go_simp); (try (go_bits; try go_simp)); (try (rw [if_pos (by omega)]; try go_simp)); (first | done | (fail) | (with_reducible rfl) | exact rfl)))
      simp only [Act.put, List.setIfInBounds_toArray, List.set_cons_zero, List.set_cons_succ]
      refine WT_yes 7 rfl (by kernel_rfl) (fun _ _ _ _ _ h => h) (by rfl) ?_; apply Exists.intro; refine ⟨fun w1 hb1 => ?_, ?_⟩; (focus ((skip; have hb1 := Lib.hid hb1; go_simp); (try (go_bits; try go_simp)); (try (rw [if_pos (by omega)]; try go_simp)); (first | done | (fail) | (with_reducible rfl) | exact rfl)))
      simp only [Act.put, List.setIfInBounds_toArray, List.set_cons_zero, List.set_cons_succ]
      refine WT_yes 8 rfl (by kernel_rfl) (fun _ _ _ _ _ h => h) (by rfl) ?_; apply Exists.intro; refine ⟨fun w1 hb1 => ?_, ?_⟩; (focus ((skip; have hb1 := Lib.hid hb1; go_simp); (try (go_bits; try go_simp)); (try (rw [if_pos (by omega)]; try go_simp)); (first | done | (fail) | (with_reducible rfl) | exact rfl)))
      simp only [Act.put, List.setIfInBounds_toArray, List.set_cons_zero, List.set_cons_succ]
      refine WT_yes 9 rfl (by kernel_rfl) (fun _ _ _ _ _ h => h) (by rfl) ?_; apply Exists.intro; refine ⟨fun w1 hb1 => ?_, ?_⟩; (focus ((skip; have hb1 := Lib.hid hb1; go_simp); (try (go_bits; try go_simp)); (try (rw [if_pos (by omega)]; try go_simp)); (first | done | (fail) | (with_reducible rfl) | exact rfl)))
      simp only [Act.put, List.setIfInBounds_toArray, List.set_cons_zero, List.set_cons_succ]
      refine WT_yes 10 rfl (by kernel_rfl) (fun _ _ _ _ _ h => h) (by rfl) ?_; apply Exists.intro; refine ⟨fun w1 hb1 => ?_, ?_⟩; (focus ((skip; have hb1 := Lib.hid hb1; go_simp); (try (go_bits; try go_simp)); (try (rw [if_pos (by omega)]; try go_simp)); (first | done | (fail) | (with_reducible rfl) | exact rfl)))
      simp only [Act.put, List.setIfInBounds_toArray, List.set_cons_zero, List.set_cons_succ]
      refine WT_yes 11 rfl (by kernel_rfl) (fun _ _ _ _ _ h => h) (by rfl) ?_; apply Exists.intro; refine ⟨fun w1 hb1 => ?_, ?_⟩; (focus ((skip; have hb1 := Lib.hid hb1; go_simp); (try (go_bits; try go_simp)); (try (rw [if_pos (by omega)]; try go_simp)); (first | done | (fail) | (with_reducible rfl) | exact rfl)))
      simp only [Act.put, List.setIfInBounds_toArray, List.set_cons_zero, List.set_cons_succ]
      refine WT_yes 12 rfl (by kernel_rfl) (fun _ _ _ _ _ h => h) (by rfl) ?_; apply Exists.intro; refine ⟨fun w1 hb1 => ?_, ?_⟩; (focus (((have c1 := (hb1.cell (p := ⟨bk, off + j * 3, none⟩) hbk3).trans ((T.out.cell (p := ⟨bk, off + j * 3, none⟩) hbk3).trans C1.out)); have hb1 := Lib.hid hb1; go_simp); (try (go_bits; try go_simp)); (try (rw [if_pos (by omega)]; try go_simp)); (first | done | (fail) | (with_reducible rfl) | exact rfl)))
      simp only [Act.put, List.setIfInBounds_toArray, List.set_cons_zero, List.set_cons_succ]
      refine WT_yes 13 rfl (by kernel_rfl) (fun _ _ _ _ _ h => h) (by rfl) ?_; apply Exists.intro; refine ⟨fun w1 hb1 => ?_, ?_⟩; (focus (((obtain ⟨-, k4, -⟩ := K4.out.to (T.out.trans hb1)); have hb1 := Lib.hid hb1; go_simp); (try (go_bits; try go_simp)); (try (rw [if_pos (by omega)]; try go_simp)); (first | done | (fail) | (with_reducible rfl) | exact rfl)))
      simp only [Act.put, List.setIfInBounds_toArray, List.set_cons_zero, List.set_cons_succ]
      refine WT_yes 14 rfl (by kernel_rfl) (fun _ _ _ _ _ h => h) (by rfl) ?_; apply Exists.intro; refine ⟨fun w1 hb1 => ?_, ?_⟩; (focus (((obtain ⟨-, k4, -⟩ := K4.out.to (T.out.trans hb1)); have hb1 := Lib.hid hb1; go_simp); (try (go_bits; try go_simp)); (try (rw [if_pos (by omega)]; try go_simp)); (first | done | (fail) | (with_reducible rfl) | exact rfl)))
      simp only [Act.put, List.setIfInBounds_toArray, List.set_cons_zero, List.set_cons_succ]
      refine WT_yes 15 rfl (by kernel_rfl) (fun _ _ _ _ _ h => h) (by rfl) ?_; apply Exists.intro; refine ⟨fun w1 hb1 => ?_, ?_⟩; (focus ((skip; have hb1 := Lib.hid hb1; go_simp); (try (go_bits; try go_simp)); (try (rw [if_pos (by omega)]; try go_simp)); (first | done | (fail) | (with_reducible rfl) | exact rfl)))
      simp only [Act.put, List.setIfInBounds_toArray, List.set_cons_zero, List.set_cons_succ]
      refine WT_yes 16 rfl (by kernel_rfl) (fun _ _ _ _ _ h => h) (by rfl) ⟨.int .i64 m2, fun w1 hb1 => (by have hm := HM2.out; go_simp; try (split <;> omega)), ?_⟩
      simp only [Act.put, List.setIfInBounds_toArray, List.set_cons_zero, List.set_cons_succ]
      refine WT_yes 17 rfl (by kernel_rfl) (fun _ _ _ _ _ h => h) (by rfl) ⟨.agg #[.int .i64 m1, .int .i64 m2], fun w1 hb1 => (by go_simp), ?_⟩
      simp only [Act.put, List.setIfInBounds_toArray, List.set_cons_zero, List.set_cons_succ]
      refine WT_two 1 22 rfl rfl (by kernel_rfl) ?_ ?_
      · unfold stepT
        go_wp2_with fail
        refine (HCPY.out _ (bThen HB.out T.out)).mono ?_
        rintro e u1 ⟨a1, c3, rfl, -, hr1, hb, -⟩
        have HR1 := Lib.hid hr1
        clear hr1
        have hbd := Lib.hid (hb.mono T.out.size)
        replace T := Lib.hid (bThen T.out hb)
        clear hb
        go_wp2_with fail
        refine ⟨hbd.out, ?_⟩
        clear hbd
        refine WT_two 18 22 rfl rfl (by kernel_rfl) ?_ ?_
        · unfold stepT
          go_wp2_with fail
          refine (HFW.out _ _ _ HR1.out).mono ?_
          rintro e u2 ⟨rfl, hb⟩
          replace HR1 := Lib.hid (HR1.out.to hb)
          have hbd := Lib.hid (hb.mono T.out.size)
          replace T := Lib.hid (bThen T.out hb)
          clear hb
          go_wp2_with fail
          refine ⟨hbd.out, ?_⟩
          clear hbd
          refine WT_yes 19 rfl (by kernel_rfl) (fun _ _ _ _ _ h => h) (by rfl) ?_; apply Exists.intro; refine ⟨fun w1 hb1 => ?_, ?_⟩; (focus ((skip; have hb1 := Lib.hid hb1; go_simp); (try (go_bits; try go_simp)); (try (rw [if_pos (by omega)]; try go_simp)); (first | done | (fail) | (with_reducible rfl) | exact rfl)))
          simp only [Act.put, List.setIfInBounds_toArray, List.set_cons_zero, List.set_cons_succ]
          refine WT_yes 20 rfl (by kernel_rfl) (fun _ _ _ _ _ h => h) (by rfl) ?_; apply Exists.intro; refine ⟨fun w1 hb1 => ?_, ?_⟩; (focus ((skip; have hb1 := Lib.hid hb1; go_simp); (try (go_bits; try go_simp)); (try (rw [if_pos (by omega)]; try go_simp)); (first | done | (fail) | (with_reducible rfl) | exact rfl)))
          simp only [Act.put, List.setIfInBounds_toArray, List.set_cons_zero, List.set_cons_succ]
          refine WT_yes 21 rfl (by kernel_rfl) (fun _ _ _ _ _ h => h) (by rfl) ?_; apply Exists.intro; refine ⟨fun w1 hb1 => ?_, ?_⟩; (focus ((skip; have hb1 := Lib.hid hb1; go_simp); (try (go_bits; try go_simp)); (try (rw [if_pos (by omega)]; try go_simp)); (first | done | (fail) | (with_reducible rfl) | exact rfl)))
          simp only [Act.put, List.setIfInBounds_toArray, List.set_cons_zero, List.set_cons_succ]
          refine WT_one 22 rfl (by kernel_rfl) ?_
          unfold stepT
          go_wp2_with fail
          obtain ⟨u3, hwA⟩ : ∃ wA, u2.alloc (.cells #[.int .i64 0, .int .i64 0] 25) = wA := ⟨_, rfl⟩
          rw [hwA]
          have hb : Below u2.heap.size u2 u3 := by subst hwA; exact bAlloc (bSelf _) _
          replace HR1 := Lib.hid (HR1.out.to hb)
          have KBN : Hid (Blk u3 u2.heap.size #[.int .i64 0, .int .i64 0]) := by subst hwA; exact Blk.new _ _ _
          clear hwA
          have BNN : Hid (w1.heap.size ≤ u2.heap.size) := Lib.hid T.out.size
          obtain ⟨BN, hBN⟩ : ∃ N, u2.heap.size = N := ⟨_, rfl⟩
          have hbd := Lib.hid (hb.mono T.out.size)
          replace T := Lib.hid (bThen T.out hb)
          clear hb
          rw [hBN] at KBN BNN  ⊢
          clear hBN
          refine ⟨hbd.out, ?_⟩
          clear hbd
          refine WT_one 23 rfl (by kernel_rfl) ?_
          unfold stepT
          obtain ⟨-, kx, fx⟩ := KBN.out
          go_wp2_with fail
          clear kx fx
          obtain ⟨u4, hu⟩ : ∃ u, (u3.setCell ⟨BN, 0, none⟩ (.int .i64 x1)).setCell ⟨BN, 1, none⟩ (.int .i64 x2) = u := ⟨_, rfl⟩
          have hb : Below w1.heap.size u3 u4 := by rw [← hu]; exact ((Below.refl _ _).setCell (p := ⟨BN, 0, none⟩) BNN.out _).setCell (p := ⟨BN, 1, none⟩) BNN.out _
          replace KBN := Lib.hid ((KBN.out.set 0 (.int .i64 x1)).set 1 (.int .i64 x2))
          rw [hu] at KBN ⊢
          clear hu
          replace T := Lib.hid (T.out.trans hb)
          refine ⟨hb, ?_⟩
          clear hb
          refine WT_yes 24 rfl (by kernel_rfl) (fun _ _ _ _ _ h => h) (by rfl) ?_; apply Exists.intro; refine ⟨fun w1 hb1 => ?_, ?_⟩; (focus ((skip; have hb1 := Lib.hid hb1; go_simp); (try (go_bits; try go_simp)); (try (rw [if_pos (by omega)]; try go_simp)); (first | done | (fail) | (with_reducible rfl) | exact rfl)))
          simp only [Act.put, List.setIfInBounds_toArray, List.set_cons_zero, List.set_cons_succ]
          refine WT_done (by kernel_rfl) ?_
          go_wp2_with fail
          go_meet
          case rel => exact ⟨BN, rfl, rfl, KBN, T⟩
        · unfold stepT
          go_wp2_with fail
          obtain ⟨u2, hwA⟩ : ∃ wA, u1.alloc (.cells #[.int .i64 0, .int .i64 0] 25) = wA := ⟨_, rfl⟩
          rw [hwA]
          have hb : Below u1.heap.size u1 u2 := by subst hwA; exact bAlloc (bSelf _) _
          replace HR1 := Lib.hid (HR1.out.to hb)
          have KBN : Hid (Blk u2 u1.heap.size #[.int .i64 0, .int .i64 0]) := by subst hwA; exact Blk.new _ _ _
          clear hwA
          have BNN : Hid (w1.heap.size ≤ u1.heap.size) := Lib.hid T.out.size
          obtain ⟨BN, hBN⟩ : ∃ N, u1.heap.size = N := ⟨_, rfl⟩
          have hbd := Lib.hid (hb.mono T.out.size)
          replace T := Lib.hid (bThen T.out hb)
          clear hb
          rw [hBN] at KBN BNN  ⊢
          clear hBN
          refine ⟨hbd.out, ?_⟩
          clear hbd
          refine WT_one 18 rfl (by kernel_rfl) ?_
          unfold stepT
          go_wp2_with fail
          refine (HFW.out _ _ _ HR1.out).mono ?_
          rintro e u3 ⟨rfl, hb⟩
          replace KBN := Lib.hid (KBN.out.to hb)
          replace HR1 := Lib.hid (HR1.out.to hb)
          have hbd := Lib.hid (hb.mono T.out.size)
          replace T := Lib.hid (bThen T.out hb)
          clear hb
          go_wp2_with fail
          refine ⟨hbd.out, ?_⟩
          clear hbd
          refine WT_yes 19 rfl (by kernel_rfl) (fun _ _ _ _ _ h => h) (by rfl) ?_; apply Exists.intro; refine ⟨fun w1 hb1 => ?_, ?_⟩; (focus ((skip; have hb1 := Lib.hid hb1; go_simp); (try (go_bits; try go_simp)); (try (rw [if_pos (by omega)]; try go_simp)); (first | done | (fail) | (with_reducible rfl) | exact rfl)))
          simp only [Act.put, List.setIfInBounds_toArray, List.set_cons_zero, List.set_cons_succ]
          refine WT_yes 20 rfl (by kernel_rfl) (fun _ _ _ _ _ h => h) (by rfl) ?_; apply Exists.intro; refine ⟨fun w1 hb1 => ?_, ?_⟩; (focus ((skip; have hb1 := Lib.hid hb1; go_simp); (try (go_bits; try go_simp)); (try (rw [if_pos (by omega)]; try go_simp)); (first | done | (fail) | (with_reducible rfl) | exact rfl)))
          simp only [Act.put, List.setIfInBounds_toArray, List.set_cons_zero, List.set_cons_succ]
          refine WT_yes 21 rfl (by kernel_rfl) (fun _ _ _ _ _ h => h) (by rfl) ?_; apply Exists.intro; refine ⟨fun w1 hb1 => ?_, ?_⟩; (focus ((skip; have hb1 := Lib.hid hb1; go_simp); (try (go_bits; try go_simp)); (try (rw [if_pos (by omega)]; try go_simp)); (first | done | (fail) | (with_reducible rfl) | exact rfl)))
          simp only [Act.put, List.setIfInBounds_toArray, List.set_cons_zero, List.set_cons_succ]
          refine WT_one 23 rfl (by kernel_rfl) ?_
          unfold stepT
          obtain ⟨-, kx, fx⟩ := KBN.out
          go_wp2_with fail
          clear kx fx
          obtain ⟨u4, hu⟩ : ∃ u, (u3.setCell ⟨BN, 0, none⟩ (.int .i64 x1)).setCell ⟨BN, 1, none⟩ (.int .i64 x2) = u := ⟨_, rfl⟩
          have hb : Below w1.heap.size u3 u4 := by rw [← hu]; exact ((Below.refl _ _).setCell (p := ⟨BN, 0, none⟩) BNN.out _).setCell (p := ⟨BN, 1, none⟩) BNN.out _
          replace KBN := Lib.hid ((KBN.out.set 0 (.int .i64 x1)).set 1 (.int .i64 x2))
          rw [hu] at KBN ⊢
          clear hu
          replace T := Lib.hid (T.out.trans hb)
          refine ⟨hb, ?_⟩
          clear hb
          refine WT_yes 24 rfl (by kernel_rfl) (fun _ _ _ _ _ h => h) (by rfl) ?_; apply Exists.intro; refine ⟨fun w1 hb1 => ?_, ?_⟩; (focus ((skip; have hb1 := Lib.hid hb1; go_simp); (try (go_bits; try go_simp)); (try (rw [if_pos (by omega)]; try go_simp)); (first | done | (fail) | (with_reducible rfl) | exact rfl)))
          simp only [Act.put, List.setIfInBounds_toArray, List.set_cons_zero, List.set_cons_succ]
          refine WT_done (by kernel_rfl) ?_
          go_wp2_with fail
          go_meet
          case rel => exact ⟨BN, rfl, rfl, KBN, T⟩
      · unfold stepT
        go_wp2_with fail
        obtain ⟨u1, hwA⟩ : ∃ wA, wd.alloc (.cells #[.int .i64 0, .int .i64 0] 25) = wA := ⟨_, rfl⟩
        rw [hwA]
        have hb : Below wd.heap.size wd u1 := by subst hwA; exact bAlloc (bSelf _) _
        have KBN : Hid (Blk u1 wd.heap.size #[.int .i64 0, .int .i64 0]) := by subst hwA; exact Blk.new _ _ _
        clear hwA
        have BNN : Hid (w1.heap.size ≤ wd.heap.size) := Lib.hid T.out.size
        obtain ⟨BN, hBN⟩ : ∃ N, wd.heap.size = N := ⟨_, rfl⟩
        have hbd := Lib.hid (hb.mono T.out.size)
        replace T := Lib.hid (bThen T.out hb)
        clear hb
        rw [hBN] at KBN BNN  ⊢
        clear hBN
        refine ⟨hbd.out, ?_⟩
        clear hbd
        refine WT_one 1 rfl (by kernel_rfl) ?_
        unfold stepT
        go_wp2_with fail
        refine (HCPY.out _ (bThen HB.out T.out)).mono ?_
        rintro e u2 ⟨a1, c3, rfl, -, hr1, hb, -⟩
        replace KBN := Lib.hid (KBN.out.to hb)
        have HR1 := Lib.hid hr1
        clear hr1
        have hbd := Lib.hid (hb.mono T.out.size)
        replace T := Lib.hid (bThen T.out hb)
        clear hb
        go_wp2_with fail
        refine ⟨hbd.out, ?_⟩
        clear hbd
        refine WT_one 18 rfl (by kernel_rfl) ?_
        unfold stepT
        go_wp2_with fail
        refine (HFW.out _ _ _ HR1.out).mono ?_
        rintro e u3 ⟨rfl, hb⟩
        replace KBN := Lib.hid (KBN.out.to hb)
        replace HR1 := Lib.hid (HR1.out.to hb)
        have hbd := Lib.hid (hb.mono T.out.size)
        replace T := Lib.hid (bThen T.out hb)
        clear hb
        go_wp2_with fail
        refine ⟨hbd.out, ?_⟩
        clear hbd
        refine WT_yes 19 rfl (by kernel_rfl) (fun _ _ _ _ _ h => h) (by rfl) ?_; apply Exists.intro; refine ⟨fun w1 hb1 => ?_, ?_⟩; (focus ((skip; have hb1 := Lib.hid hb1; go_simp); (try (go_bits; try go_simp)); (try (rw [if_pos (by omega)]; try go_simp)); (first | done | (fail) | (with_reducible rfl) | exact rfl)))
        simp only [Act.put, List.setIfInBounds_toArray, List.set_cons_zero, List.set_cons_succ]
        refine WT_yes 20 rfl (by kernel_rfl) (fun _ _ _ _ _ h => h) (by rfl) ?_; apply Exists.intro; refine ⟨fun w1 hb1 => ?_, ?_⟩; (focus ((skip; have hb1 := Lib.hid hb1; go_simp); (try (go_bits; try go_simp)); (try (rw [if_pos (by omega)]; try go_simp)); (first | done | (fail) | (with_reducible rfl) | exact rfl)))
        simp only [Act.put, List.setIfInBounds_toArray, List.set_cons_zero, List.set_cons_succ]
        refine WT_yes 21 rfl (by kernel_rfl) (fun _ _ _ _ _ h => h) (by rfl) ?_; apply Exists.intro; refine ⟨fun w1 hb1 => ?_, ?_⟩; (focus ((skip; have hb1 := Lib.hid hb1; go_simp); (try (go_bits; try go_simp)); (try (rw [if_pos (by omega)]; try go_simp)); (first | done | (fail) | (with_reducible rfl) | exact rfl)))
        simp only [Act.put, List.setIfInBounds_toArray, List.set_cons_zero, List.set_cons_succ]
        refine WT_one 23 rfl (by kernel_rfl) ?_
        unfold stepT
        obtain ⟨-, kx, fx⟩ := KBN.out
        go_wp2_with fail
        clear kx fx
        obtain ⟨u4, hu⟩ : ∃ u, (u3.setCell ⟨BN, 0, none⟩ (.int .i64 x1)).setCell ⟨BN, 1, none⟩ (.int .i64 x2) = u := ⟨_, rfl⟩
        have hb : Below w1.heap.size u3 u4 := by rw [← hu]; exact ((Below.refl _ _).setCell (p := ⟨BN, 0, none⟩) BNN.out _).setCell (p := ⟨BN, 1, none⟩) BNN.out _
        replace KBN := Lib.hid ((KBN.out.set 0 (.int .i64 x1)).set 1 (.int .i64 x2))
        rw [hu] at KBN ⊢
        clear hu
        replace T := Lib.hid (T.out.trans hb)
        refine ⟨hb, ?_⟩
        clear hb
        refine WT_yes 24 rfl (by kernel_rfl) (fun _ _ _ _ _ h => h) (by rfl) ?_; apply Exists.intro; refine ⟨fun w1 hb1 => ?_, ?_⟩; (focus ((skip; have hb1 := Lib.hid hb1; go_simp); (try (go_bits; try go_simp)); (try (rw [if_pos (by omega)]; try go_simp)); (first | done | (fail) | (with_reducible rfl) | exact rfl)))
        simp only [Act.put, List.setIfInBounds_toArray, List.set_cons_zero, List.set_cons_succ]
        refine WT_done (by kernel_rfl) ?_
        go_wp2_with fail
        go_meet
        case rel => exact ⟨BN, rfl, rfl, KBN, T⟩
    obtain ⟨y10, hwo⟩ : ∃ wo, wo = wc := ⟨_, rfl⟩
    subst hwo
    obtain ⟨B15, rfl, rfl, K15, hb⟩ := hcut
    replace hb := hb.out
    replace K9 := Lib.hid (K9.out.to hb)
    replace HY := Lib.hid (bThen HY.out hb)
    clear hb
    obtain ⟨-, k9, -⟩ := K9.out
    obtain ⟨-, k15, -⟩ := K15.out
    go_wp2_with fail
    go_meet
    case rel => exact HY
  obtain ⟨y11, hwo⟩ : ∃ wo, wo = wc := ⟨_, rfl⟩
  subst hwo
  have hb := hcut.out
  replace HB := Lib.hid (bThen HB.out hb)
  clear hb hcut K4 K9 HNO HYES HWI HFS LC HLV HCL HCU hbk
  go_wp2_with fail
  refine (HFE.out _).mono ?_
  rintro e w' ⟨rfl, rfl⟩
  cases bl
  · obtain ⟨rfl, rfl⟩ : e1 = 0 ∧ e2 = 2 := by have := HV1.out (by first | trivial | rfl); cases this; exact ⟨rfl, rfl⟩
    rw [show unl false 2 = 2 from rfl]
    go_wp2_with fail
    go_ret
    exact ⟨rfl, HB.out⟩
  rw [show unl true 2 = 0 from rfl]
  have hfb := wthn_iff.1 HBLE.out
  go_wp2_with fail
  refine (HRD.out _ hfb HB.out).mono ?_
  rintro e yg ⟨rfl, hb⟩
  replace HB := Lib.hid (bThen HB.out hb)
  clear hb HRD
  cases vd with
  | none =>
    obtain ⟨rfl, rfl⟩ : e1 = 0 ∧ e2 = 12 := by have := HV2.out (by first | trivial | rfl) (by first | trivial | rfl); cases this; exact ⟨rfl, rfl⟩
    go_wp2_with fail
    go_ret
    exact ⟨rfl, HB.out⟩
  | some d =>
    obtain ⟨g1, hd1, g2, g3, HBF⟩ := HV3.out d (by first | trivial | rfl) (by first | trivial | rfl)
    cases g1
    replace HBF := Lib.hid HBF
    have HPD := Lib.hid (fun W a1 c1 h => HFI.out W a1 c1 d d h)
    obtain ⟨⟨r1, r2⟩, hrx⟩ : ∃ x, flwO l d d = x := ⟨_, rfl⟩
    rw [g2, hrx] at HPD
    rw [hrx] at g3
    dsimp only at HPD g3
    clear g2 hrx HV1 HV2 HV3
    simp only [Option.getD_some, Option.isSome_some]
    go_wp2_with fail
    refine (HCPY.out _ HB.out).mono ?_
    rintro e yh ⟨a1, c3, rfl, -, hr1, hb, -⟩
    replace HB := Lib.hid (bThen HB.out hb)
    have HR1 := Lib.hid hr1
    clear hr1 hb
    go_wp2_with fail
    refine (HPD.out _ _ _ HR1.out).mono ?_
    rintro e yi ⟨rfl, hb⟩
    replace HB := Lib.hid (bThen HB.out hb)
    clear hb HR1 HPD
    by_cases hd0 : d = 0
    · subst hd0
      go_wp2_with fail
      go_ret
      exact ⟨rfl, bAlloc HB.out _⟩
    obtain ⟨i, rfl⟩ : ∃ i, d = i + 1 := ⟨d - 1, by omega⟩
    go_wp2_with fail
    obtain ⟨W9, hW9⟩ : ∃ W, yi.alloc (.cells #[.int .i64 r1, .int .i64 r2] 25) = W := ⟨_, rfl⟩
    rw [hW9]
    have hb : Below yi.heap.size yi W9 := by subst hW9; exact bAlloc (bSelf _) _
    replace HB := Lib.hid (bThen HB.out hb)
    clear hb hW9
    obtain ⟨g2, g3⟩ := HBF.out i rfl
    have HPD := Lib.hid (fun W a1 c1 h => HFI.out W a1 c1 i i h)
    obtain ⟨⟨t1, t2⟩, hrx⟩ : ∃ x, flwO l i i = x := ⟨_, rfl⟩
    rw [g2, hrx] at HPD
    rw [hrx] at g3
    dsimp only at HPD g3
    have hjc : ((i + 1 : Nat) : Int) - 1 = (i : Int) := by omega
    clear g2 hrx HBF HFI
    refine (HCPY.out _ HB.out).mono ?_
    rintro e yj ⟨a1, c3, rfl, -, hr1, hb, -⟩
    replace HB := Lib.hid (bThen HB.out hb)
    have HR1 := Lib.hid hr1
    clear hr1 hb
    go_wp2_with fail
    refine (HPD.out _ _ _ HR1.out).mono ?_
    rintro e yk ⟨rfl, hb⟩
    replace HB := Lib.hid (bThen HB.out hb)
    clear hb HR1 HPD
    go_wp2_with fail
    go_ret
    exact ⟨rfl, bAlloc HB.out _⟩

end Go.Proofs.YtjfedpblkejmkaaGreat

