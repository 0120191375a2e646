/-
  Texts of this claim, in their build order: OR7 OR8 OL4 OM15 R1 OR3 OW5 OR13 OL6.
-/
import Derived.Test.YtjfedpblkejmkaaGreatPla47
import Derived.Test.YtjfedpblkejmkaaGreatPla18
import Derived.Test.YtjfedpblkejmkaaGreatPla19
import Derived.Test.YtjfedpblkejmkaaGreatPla45
import Derived.Test.YtjfedpblkejmkaaGreatPla25
import Derived.Test.YtjfedpblkejmkaaGreatPla24
import Derived.Test.YtjfedpblkejmkaaGreatPla23
import Derived.Test.YtjfedpblkejmkaaGreatPla26

/-
  The reference's pressures: line, Pressure.
-/
namespace Go.Proofs.YtjfedpblkejmkaaGreat
open Go.RowKit
attribute [local go_sem] Oper.semAt_some

theorem dg_few {n : Int} (h1 : -1000000000000 ≤ n) (h2 : n ≤ 1000000000000) : (dg n).length ≤ 20 := Nat.le_trans (dg_small 3 (Nat.lt_of_lt_of_le (show n.natAbs < 1000000000000000000 by omega) (by decide))) (by decide)
theorem RR.st4 {W : World} {a1 a2 : Option Addr} {v : Value} {q : Int × Int} {b : Nat} (h : RR W a1 a2 v q) (hl : Loc (fun c => c ≠ b) a1 q.1 ∧ Loc (fun c => c ≠ b) a2 q.2) (x0 x1 x2 x3 : Value) : RR (Go.Proofs.YtjfedpblkejmkaaGreat.st4 W b x0 x1 x2 x3) a1 a2 v q :=
  (((h.set1 hl.1 hl.2 x0).set1 hl.1 hl.2 x1).set1 hl.1 hl.2 x2).set1 hl.1 hl.2 x3
set_option maxHeartbeats 3200000 in
set_option maxRecDepth 100000 in
theorem rLine_any (x y u v at' : Int) (w : World) (hx : -100000 ≤ x ∧ x ≤ 100000) (hy : -100000 ≤ y ∧ y ≤ 100000) (hu : u ≤ 100000) (hv : -100000 ≤ v ∧ v ≤ 100000) (ha : -100000 ≤ at' ∧ at' ≤ 100000) (hxu : x < u) :
    Calls Tryz.prog 139 #[.int .i64 x, .int .i64 y, .int .i64 u, .int .i64 v, .int .i64 at'] w fun e w1 => RPost [] (rAdd (y, 1) (fr ((v - y) * (at' - x)) (u - x))) w e w1 := by
  obtain ⟨x1, x2⟩ := hx
  obtain ⟨y1, y2⟩ := hy
  obtain ⟨v1, v2⟩ := hv
  obtain ⟨a1, a2⟩ := ha
  have pm := mul_bd (a := v - y) (b := at' - x) (A := 200000) (B := 200000) (by omega) (by omega) (by omega) (by omega)
  obtain ⟨pm1, pm2⟩ := pm
  have HI := Lib.hid (fun W => RatioInt_any y W (by omega) (by omega))
  have HF := Lib.hid (fun W => RatioOf_any ((v - y) * (at' - x)) (u - x) W (by omega) (by omega) (by omega) (by omega))
  have HA := Lib.hid (fun W c1 c2 d1 d2 z1 z2 h1 h2 => RatioAdd_any (y, 1) (fr ((v - y) * (at' - x)) (u - x)) c1 c2 d1 d2 z1 z2 W h1 h2 (dg_few (by dsimp only; omega) (by dsimp only; omega)) (dg_few (by dsimp only; omega) (by dsimp only; omega)) (dg_fr1 (dg_few (by omega) (by omega))) (dg_fr2 (dg_few (by omega) (by omega))) (by dsimp only; omega) (fr_pos (by omega)))
  obtain ⟨q, hq⟩ : ∃ q, rAdd (y, 1) (fr ((v - y) * (at' - x)) (u - x)) = q := ⟨_, rfl⟩
  rw [hq] at HA ⊢
  obtain ⟨f, hf⟩ : ∃ f, fr ((v - y) * (at' - x)) (u - x) = f := ⟨_, rfl⟩
  rw [hf] at HA HF
  clear hq hf
  go_enter Tryz.func139, Tryz.ntmps139
  go_wp2_with fail
  obtain ⟨W, hW⟩ : ∃ W, w.alloc (.cells #[.int .i64 0, .slice none 0 0, .int .i64 0, .slice none 0 0] 112) = W := ⟨_, rfl⟩
  rw [hW]
  have K : Hid (Blk W w.heap.size #[.int .i64 0, .slice none 0 0, .int .i64 0, .slice none 0 0]) := by subst hW; exact Lib.hid (Blk.new _ _ _)
  have HB : Hid (Below w.heap.size w W) := by subst hW; exact Lib.hid (bAlloc (bSelf w) _)
  clear hW
  refine (HI.out _).mono ?_
  rintro e w1 ⟨c1, c2, z1, rfl, hr1, hb, -⟩
  have HR1 := Lib.hid hr1
  replace K := Lib.hid (K.out.to hb)
  replace HB := Lib.hid (bThen HB.out hb)
  obtain ⟨s1, n1, k1, t1, m1, l1, rfl, -, -⟩ := hr1.ex
  clear hb hr1
  go_wp2_with fail
  refine (HF.out _).mono ?_
  rintro e w2 ⟨d1, d2, z2, rfl, hr2, hb, -⟩
  have HR2 := Lib.hid hr2
  replace HR1 := Lib.hid (HR1.out.to hb)
  replace K := Lib.hid (K.out.to hb)
  replace HB := Lib.hid (bThen HB.out hb)
  obtain ⟨s2, n2, k2, t2, m2, l2, rfl, -, -⟩ := hr2.ex
  clear hb hr2
  go_wp2_with fail
  refine (HA.out _ _ _ _ _ _ _ HR1.out HR2.out).mono ?_
  rintro e w3 ⟨g1, g2, z3, rfl, hr3, hb, hloc⟩
  have HR3 := Lib.hid hr3
  have HL := Lib.hid (fun (P : Nat → Prop) (h : ∀ b, w2.heap.size ≤ b → P b) => hloc P h (fun i hi => by cases hi))
  have HLB := Lib.hid (HL.out (fun c => c ≠ w.heap.size) (fun b hb => by have := K.out.1; omega))
  have HSZ : Hid (w.heap.size ≤ w2.heap.size) := Lib.hid HB.out.size
  replace K := Lib.hid (K.out.to hb)
  replace HB := Lib.hid (bThen HB.out hb)
  obtain ⟨s3, n3, k3, t3, m3, l3, rfl, -, -⟩ := hr3.ex
  clear hb hr3 hloc HR1 HR2
  obtain ⟨-, k, f'⟩ := K.out
  go_wp2_with fail
  clear k f'
  have F := (K.out.st4 (.int .i64 s3) (.slice g1 n3 k3) (.int .i64 t3) (.slice g2 m3 l3)).2.1
  have F0 := F 0; have F1 := F 1; have F2 := F 2; have F3 := F 3
  unfold st4 at F0 F1 F2 F3
  clear F
  have HP : Hid (RPost [] q w (.returned (.agg #[.int .i64 s3, .slice g1 n3 k3, .int .i64 t3, .slice g2 m3 l3])) (st4 w3 w.heap.size (.int .i64 s3) (.slice g1 n3 k3) (.int .i64 t3) (.slice g2 m3 l3))) := Lib.hid
    ⟨g1, g2, _, rfl, HR3.out.st4 HLB.out _ _ _ _, HB.out.trans (below_st4 w3 (Nat.le_refl _) _ _ _ _), fun P hf _ => HL.out P (fun b hb => hf b (by have := HSZ.out; omega))⟩
  refine bodyPost_ret (v := .agg #[.int .i64 s3, .slice g1 n3 k3, .int .i64 t3, .slice g2 m3 l3]) ?_ rfl HP.out
  simp [results, Tryz.results139, go_sem, F0, F1, F2, F3]

set_option maxHeartbeats 6400000 in
set_option maxRecDepth 100000 in
theorem rPressure_any (p : Plt) (v : Int) (a : Option Addr) (cap : Nat) (w : World) (hp : PtsOk p.pts) (hv : -100000 ≤ v ∧ v ≤ 100000) (hr : Reads w a (p.pts.length * 2) (fracs p.pts)) :
    Calls Tryz.prog 64 #[.agg (plC p a cap), .int .i64 v] w fun e w1 => RPost [] (rPr p.pts v) w e w1 := by
  have HR := Lib.hid hr
  obtain ⟨l, pump, on, off⟩ := p
  unfold plC
  dsimp only at HR hp ⊢
  have HPR : Hid (rPr l v = if rPrI l v < l.length then rSeg (fg l (rPrI l v - 1)) (fg l (rPrI l v)) v else (0, 1)) := Lib.hid rfl
  have HPI : Hid (rPrI l v = ixF (fun j => decide (v ≤ (fg l j).1)) 1 (l.length - 1)) := Lib.hid rfl
  have HLI := Lib.hid (fun W (k : Nat) (h1 : 1 ≤ k) (h2 : k < l.length) => rLine_any (fg l (k - 1)).1 (fg l (k - 1)).2 (fg l k).1 (fg l k).2 v W (by have := hp.vol (k - 1) (by omega); omega) (by have := hp.prs (k - 1) (by omega); omega) (by have := hp.vol k h2; omega) (by have := hp.prs k h2; omega) hv (by have := (hp.up (k - 1) (by omega)).1; rwa [Nat.sub_add_cancel h1] at this))
  have HRI := Lib.hid (fun W => RatioInt_any 0 W (by decide) (by decide))
  obtain ⟨q, hq⟩ : ∃ q, rPr l v = q := ⟨_, rfl⟩
  obtain ⟨pi, hpi⟩ : ∃ i, rPrI l v = i := ⟨_, rfl⟩
  rw [hq] at HPR ⊢
  rw [hpi] at HPR HPI
  have h2 := hp.two
  have h8 := hp.few
  obtain ⟨n, hn⟩ : ∃ n, l.length = n := ⟨_, rfl⟩
  have HN := Lib.hid hn
  rw [hn] at HR HPR HPI HLI h2 h8 ⊢
  clear hr hq hpi hn hp
  go_enter Tryz.func64, Tryz.ntmps64
  go_wp2_with fail
  obtain ⟨W, hW⟩ : ∃ W, (w.alloc (.cells #[.slice a n cap, .int .i64 pump, .int .i64 on, .int .i64 off] 44)).alloc (.cells #[.int .i64 0, .slice none 0 0, .int .i64 0, .slice none 0 0] 112) = W := ⟨_, rfl⟩
  rw [hW]
  have K : Hid (Blk W (w.heap.size + 1) #[.int .i64 0, .slice none 0 0, .int .i64 0, .slice none 0 0]) := by subst hW; exact Lib.hid (Blk.newAt _ _ _ (by simp))
  have HB : Hid (Below w.heap.size w W) := by subst hW; exact Lib.hid (bAlloc (bAlloc (bSelf w) _) _)
  replace HR := Lib.hid (HR.out.to HB.out)
  clear hW
  go_loopw [6] (fun s6 wr => ∃ k : Nat, 1 ≤ k ∧ k ≤ n ∧ s6 = .int .i64 k ∧ Hid (pi = ixF (fun j => decide (v ≤ (fg l j).1)) k (n - k)) ∧ W = wr) (fun s6 _ => n - (intOf s6).toNat)
  case atStart => exact ⟨1, Nat.le_refl _, by omega, rfl, HPI, rfl⟩
  case round =>
    obtain ⟨k, hk1, hk, rfl, hee, rfl⟩ := hrel
    by_cases hlt : k < n
    · obtain ⟨b, off', rfl, hb, hc⟩ := HR.out.at (k := k * 2) (by omega)
      have HBL : Hid (b < W.heap.size) := Lib.hid hb
      obtain ⟨⟨x1, y1⟩, hx1⟩ : ∃ x, fg l k = x := ⟨_, rfl⟩
      obtain ⟨⟨x0, y0⟩, hx0⟩ : ∃ x, fg l (k - 1) = x := ⟨_, rfl⟩
      obtain ⟨j, hj⟩ : ∃ j, k - 1 = j := ⟨_, rfl⟩
      have C0 : Hid (W.cell? ⟨b, off' + k * 2, none⟩ = some (.int .i64 x1)) := Lib.hid (by have := hc (k * 2) (by omega); rw [fracs0, hx1] at this; exact this)
      have C1 : Hid (W.cell? ⟨b, off' + k * 2 + 1, none⟩ = some (.int .i64 y1)) := Lib.hid (by have := hc (k * 2 + 1) (by omega); rw [fracs1, hx1] at this; exact this)
      have D0 : Hid (W.cell? ⟨b, off' + j * 2, none⟩ = some (.int .i64 x0)) := Lib.hid (by have := hc (j * 2) (by omega); rw [fracs0, ← hj, hx0, hj] at this; exact this)
      have D1 : Hid (W.cell? ⟨b, off' + j * 2 + 1, none⟩ = some (.int .i64 y0)) := Lib.hid (by have := hc (j * 2 + 1) (by omega); rw [fracs1, ← hj, hx0, hj] at this; exact this)
      have HLK := Lib.hid (fun W' => HLI.out W' k hk1 hlt)
      rw [hx1, hx0] at HLK
      dsimp only at HLK
      have hkn : (k : Int) < (n : Int) := by omega
      have hjn : (j : Int) < (n : Int) := by omega
      have hkj : (k : Int) - 1 = (j : Int) := by omega
      have c0 := C0.out
      cases g : decide (v ≤ x1) with
      | false =>
        have HS := Lib.hid (ixF_step (p := fun j => decide (v ≤ (fg l j).1)) hlt (by rw [hx1]; exact g))
        clear hx1 hx0 hj hc hb hkj hjn
        go_wp2_with fail
        go_roundw
        case rel => exact ⟨k + 1, by omega, by omega, by go_num, Lib.hid (hee.out.trans HS.out), trivial⟩
        case measure => simp [intOf]; omega
      | true =>
        have HS := Lib.hid (ixF_stop (p := fun j => decide (v ≤ (fg l j).1)) hlt (by rw [hx1]; exact g))
        have HQ : Hid (q = rAdd (y0, 1) (fr ((y1 - y0) * (v - x0)) (x1 - x0))) := Lib.hid (by
          rw [HPR.out, hee.out, HS.out, if_pos hlt, hx1, hx0]; rfl)
        rw [← HQ.out] at HLK
        clear hx1 hx0 hj hc hb
        go_upto_region 6 with (fail)
        clear c0
        refine wp_region_quiet_tail 23 (fun w' => Below (World.heap W).size (W) w') (by kernel_rfl) (by kernel_rfl) (Below.refl _ _).drew ?_
        simp only [List.take_succ_cons, List.take_zero, List.drop_succ_cons, List.drop_zero]
        refine WQ.out ?_
        repeat (first | (refine WQ_no (by rfl) ?_; (simp only [Act.put, List.setIfInBounds_toArray, List.set_cons_zero, List.set_cons_succ])) | (refine WQ_yes (by rfl) ?_; apply Exists.intro; refine ⟨fun w1 hb1 => ?_, ?_⟩; (focus (((have c0 := (hb1.cell (p := ⟨b, off' + k * 2, none⟩) HBL.out).trans C0.out; have c1 := (hb1.cell (p := ⟨b, off' + k * 2 + 1, none⟩) HBL.out).trans C1.out; have d0 := (hb1.cell (p := ⟨b, off' + j * 2, none⟩) HBL.out).trans D0.out; have d1 := (hb1.cell (p := ⟨b, off' + j * 2 + 1, none⟩) HBL.out).trans D1.out); have hb1 := Lib.hid hb1; go_simp); (try (go_bits; try go_simp)); (try (rw [if_pos (by omega)]; try go_simp)); (first | done | (fail) | (with_reducible rfl) | exact rfl))); (simp only [Act.put, List.setIfInBounds_toArray, List.set_cons_zero, List.set_cons_succ])))
        refine WQ_nil ?_
        intro w1 hb1
        go_wp2_with fail
        replace K := Lib.hid (K.out.to hb1)
        replace HB := Lib.hid (bThen HB.out hb1)
        clear HRI HR C0 C1 D0 D1 HQ HS
        refine (HLK.out _).mono ?_
        rintro e w3 ⟨g1, g2, z3, rfl, hr3, hb, hloc⟩
        have HR3 := Lib.hid hr3
        have HL := Lib.hid (fun (P : Nat → Prop) (h : ∀ b, w1.heap.size ≤ b → P b) => hloc P h (fun i hi => by cases hi))
        have HLB := Lib.hid (HL.out (fun c => c ≠ w.heap.size + 1) (fun b hb => by have := K.out.1; omega))
        have HSZ : Hid (w.heap.size ≤ w1.heap.size) := Lib.hid HB.out.size
        replace K := Lib.hid (K.out.to hb)
        replace HB := Lib.hid (bThen HB.out hb)
        obtain ⟨s3, n3, k3, t3, m3, l3, rfl, -, -⟩ := hr3.ex
        clear hb hr3 hloc
        obtain ⟨-, kk, f'⟩ := K.out
        go_wp2_with fail
        clear kk f'
        have F := (K.out.st4 (.int .i64 s3) (.slice g1 n3 k3) (.int .i64 t3) (.slice g2 m3 l3)).2.1
        have F0 := F 0; have F1 := F 1; have F2 := F 2; have F3 := F 3
        unfold st4 at F0 F1 F2 F3
        clear F
        have HP : Hid (RPost [] q w (.returned (.agg #[.int .i64 s3, .slice g1 n3 k3, .int .i64 t3, .slice g2 m3 l3])) (st4 w3 (w.heap.size + 1) (.int .i64 s3) (.slice g1 n3 k3) (.int .i64 t3) (.slice g2 m3 l3))) := Lib.hid
          ⟨g1, g2, _, rfl, HR3.out.st4 HLB.out _ _ _ _, HB.out.trans (below_st4 w3 (Nat.le_succ _) _ _ _ _), fun P hf _ => HL.out P (fun b hb => hf b (by have := HSZ.out; omega))⟩
        refine bodyPost_ret (v := .agg #[.int .i64 s3, .slice g1 n3 k3, .int .i64 t3, .slice g2 m3 l3]) ?_ rfl HP.out
        simp [results, Tryz.results64, go_sem, F0, F1, F2, F3]
    · obtain rfl : k = n := by omega
      have HQ : Hid (q = (0, 1)) := Lib.hid (by
        have hpi : pi = k := by
          rw [hee.out, Nat.sub_self]; rfl
        rw [HPR.out, hpi, if_neg (Nat.lt_irrefl _)])
      rw [← HQ.out] at HRI
      clear HR HLI HPR HPI hee
      go_wp2_with fail
      refine (HRI.out _).mono ?_
      rintro e w3 ⟨g1, g2, z3, rfl, hr3, hb, hloc⟩
      have HR3 := Lib.hid hr3
      have HL := Lib.hid (fun (P : Nat → Prop) (h : ∀ b, W.heap.size ≤ b → P b) => hloc P h (fun i hi => by cases hi))
      have HLB := Lib.hid (HL.out (fun c => c ≠ w.heap.size + 1) (fun b hb => by have := K.out.1; omega))
      have HSZ : Hid (w.heap.size ≤ W.heap.size) := Lib.hid HB.out.size
      replace K := Lib.hid (K.out.to hb)
      replace HB := Lib.hid (bThen HB.out hb)
      obtain ⟨s3, n3, k3, t3, m3, l3, rfl, -, -⟩ := hr3.ex
      clear hb hr3 hloc
      obtain ⟨-, kk, f'⟩ := K.out
      go_wp2_with fail
      clear kk f'
      have F := (K.out.st4 (.int .i64 s3) (.slice g1 n3 k3) (.int .i64 t3) (.slice g2 m3 l3)).2.1
      have F0 := F 0; have F1 := F 1; have F2 := F 2; have F3 := F 3
      unfold st4 at F0 F1 F2 F3
      clear F
      have HP : Hid (RPost [] q w (.returned (.agg #[.int .i64 s3, .slice g1 n3 k3, .int .i64 t3, .slice g2 m3 l3])) (st4 w3 (w.heap.size + 1) (.int .i64 s3) (.slice g1 n3 k3) (.int .i64 t3) (.slice g2 m3 l3))) := Lib.hid
        ⟨g1, g2, _, rfl, HR3.out.st4 HLB.out _ _ _ _, HB.out.trans (below_st4 w3 (Nat.le_succ _) _ _ _ _), fun P hf _ => HL.out P (fun b hb => hf b (by have := HSZ.out; omega))⟩
      refine bodyPost_ret (v := .agg #[.int .i64 s3, .slice g1 n3 k3, .int .i64 t3, .slice g2 m3 l3]) ?_ rfl HP.out
      simp [results, Tryz.results64, go_sem, F0, F1, F2, F3]

end Go.Proofs.YtjfedpblkejmkaaGreat

/-
  The reference: Below, Next.
-/
namespace Go.Proofs.YtjfedpblkejmkaaGreat
open Go.RowKit
attribute [local go_sem] Oper.semAt_some

theorem dg_frL {q : Int × Int} (h : QOk q) : (dg (fr q.1 q.2).1).length ≤ 50 ∧ (dg (fr q.1 q.2).2).length ≤ 50 := ⟨Nat.le_trans (dg_fr1 (dg_few (by have := h.n0; omega) (by have := h.n1; omega))) (by decide), Nat.le_trans (dg_fr2 (dg_few (by have := h.d0; omega) (by have := h.d1; omega))) (by decide)⟩
/-- A fraction in a box. -/
def RBlk (W : World) (b : Nat) (q : Int × Int) : Prop :=
  ∃ a1 a2 s1 n1 c1 s2 n2 c2, Blk W b #[.int .i64 s1, .slice a1 n1 c1, .int .i64 s2, .slice a2 n2 c2] ∧ RR W a1 a2 (.agg #[.int .i64 s1, .slice a1 n1 c1, .int .i64 s2, .slice a2 n2 c2]) q
theorem RBlk.to {W W' : World} {b : Nat} {q : Int × Int} (h : RBlk W b q) (hb : Below W.heap.size W W') : RBlk W' b q := by
  obtain ⟨a1, a2, s1, n1, c1, s2, n2, c2, h1, h2⟩ := h
  exact ⟨a1, a2, s1, n1, c1, s2, n2, c2, h1.to hb, h2.to hb⟩

set_option maxHeartbeats 1600000 in
set_option maxRecDepth 100000 in
theorem rBelow_any (p : Plt) (s : OSt) (lim : Int) (a : Option Addr) (cap : Nat) (w : World) (hp : PtsOk p.pts) (hs : 0 ≤ s.1 ∧ s.1 ≤ capV p.pts) (hl : -100000 ≤ lim ∧ lim ≤ 100000) (hr : Reads w a (p.pts.length * 2) (fracs p.pts)) :
    Calls Tryz.prog 43 #[.agg (plC p a cap), .agg #[.int .i64 s.1, .bool s.2], .int .i64 lim] w fun e w' => e = .returned (.bool (lessQ (prQ p.pts s.1) (lim, 1))) ∧ Below w.heap.size w w' := by
  have hq := QOk.of_pts hp hs.1 hs.2
  have hcl := OnOk.of_pts hp hs.1 hs.2
  have HE : Hid (decide ((((rPr p.pts s.1).1 * 1 - lim * (rPr p.pts s.1).2).sign) < 0) = lessQ (prQ p.pts s.1) (lim, 1)) := Lib.hid (by
    rw [rPr_eq hp hs.1 hs.2]
    exact cmp_lt (N := (prQ p.pts s.1).1) lim (show 0 < (prQ p.pts s.1).2 by have := hq.d0; omega))
  have HPR := Lib.hid (fun W (hb : Below w.heap.size w W) => rPressure_any p s.1 a cap W hp (by have := hcl.x0; omega) (hr.to hb))
  have HRI := Lib.hid (fun W => RatioInt_any lim W (by omega) (by omega))
  have hd := dg_frL hq
  rw [← rPr_eq hp hs.1 hs.2] at hd
  have HCM := Lib.hid (fun W a1 a2 b1 b2 v1 v2 h1 h2 => RatioCmp_any (rPr p.pts s.1) (lim, 1) a1 a2 b1 b2 v1 v2 W h1 h2 hd.1 hd.2 (Nat.le_trans (dg_few (by dsimp only; omega) (by dsimp only; omega)) (by decide)) (Nat.le_trans (dg_few (by dsimp only; omega) (by dsimp only; omega)) (by decide)))
  dsimp only at HCM
  obtain ⟨c, hc⟩ : ∃ c, ((rPr p.pts s.1).1 * 1 - lim * (rPr p.pts s.1).2).sign = c := ⟨_, rfl⟩
  obtain ⟨q, hq'⟩ : ∃ q, rPr p.pts s.1 = q := ⟨_, rfl⟩
  obtain ⟨bl, hbl⟩ : ∃ b, lessQ (prQ p.pts s.1) (lim, 1) = b := ⟨_, rfl⟩
  rw [hc] at HE HCM
  rw [hbl] at HE ⊢
  rw [hq'] at HPR HCM
  clear hc hq' hbl hq hcl hp hs hl hr hd
  obtain ⟨s1, s2⟩ := s
  dsimp only at HPR ⊢
  go_enter Tryz.func43, Tryz.ntmps43
  go_wp2_with fail
  refine (HPR.out _ (bAlloc (bAlloc (bSelf w) _) _)).mono ?_
  rintro e w1 ⟨a1, a2, v, rfl, hrr, hb, -⟩
  have HB := Lib.hid (bThen (bAlloc (bAlloc (bSelf w) _) _) hb)
  have HRR := Lib.hid hrr
  obtain ⟨t1, n1, c1, t2, n2, c2, rfl, -, -⟩ := hrr.ex
  clear hb hrr
  go_wp2_with fail
  refine (HRI.out _).mono ?_
  rintro e w2 ⟨b1, b2, v, rfl, hrr, hb, -⟩
  replace HB := Lib.hid (bThen HB.out hb)
  replace HRR := Lib.hid (HRR.out.to hb)
  have HR2 := Lib.hid hrr
  obtain ⟨u1, m1, d1, u2, m2, d2, rfl, -, -⟩ := hrr.ex
  clear hb hrr
  go_wp2_with fail
  refine (HCM.out _ _ _ _ _ _ _ HRR.out HR2.out).mono ?_
  rintro e w3 ⟨rfl, hb⟩
  replace HB := Lib.hid (bThen HB.out hb)
  clear hb
  go_wp2_with fail
  go_ret
  exact ⟨ret_bool (by rw [← HE.out]), HB.out⟩

end Go.Proofs.YtjfedpblkejmkaaGreat

/-
  OilRuns.
-/
namespace Go.Proofs.YtjfedpblkejmkaaGreat
open Go.RowKit
attribute [local go_sem] Oper.semAt_some

theorem lFew_any (p : Plt) (a : Option Addr) (cap : Nat) (w : World) :
    Calls Tryz.prog 23 #[.agg (plC p a cap)] w fun e w' => e = .returned (.bool (decide ((p.pts.length : Int) ≤ 10))) ∧ Below w.heap.size w w' := by
  obtain ⟨l, pump, on, off⟩ := p
  unfold plC
  dsimp only
  obtain ⟨n, hn⟩ : ∃ n, l.length = n := ⟨_, rfl⟩
  rw [hn]
  clear hn
  go_enter Tryz.func23, Tryz.ntmps23
  go_wp2_with fail
  go_ret
  exact ⟨rfl, bAlloc (bSelf w) _⟩

end Go.Proofs.YtjfedpblkejmkaaGreat

/-
  VolumeFor.
-/
namespace Go.Proofs.YtjfedpblkejmkaaGreat
open Go.RowKit
attribute [local go_sem] Oper.semAt_some

def vlfE (p : Plt) (pr : Int) : Int := firstE [(chP p).2, unl (wthn pr 0 1000) 2]
def vlfD (p : Plt) (pr : Int) : Option Nat := drpQ p.pts pr 0 (capV p.pts + 1).toNat
/-- VolumeFor's answer and error. -/
def vlfR (p : Plt) (pr : Int) : Int × Int := if vlfE p pr = 0 then (match vlfD p pr with | some d => ((d : Int), 0) | none => (0, 12)) else (0, vlfE p pr)
theorem drpQ_step {l : List (Int × Int)} {f : Int} {k n : Nat} (h : k < n) (hl : lessQ (prQ l k) (f, 1) = true) : drpQ l f k (n - k) = drpQ l f (k + 1) (n - (k + 1)) := by
  obtain ⟨m, hm⟩ : ∃ m, n - k = m + 1 := ⟨n - k - 1, by omega⟩
  rw [hm, show n - (k + 1) = m by omega]
  show (if lessQ (prQ l k) (f, 1) = false then some k else drpQ l f (k + 1) m) = _
  rw [if_neg (by rw [hl]; simp)]
theorem drpQ_stop {l : List (Int × Int)} {f : Int} {k n : Nat} (h : k < n) (hl : lessQ (prQ l k) (f, 1) = false) : drpQ l f k (n - k) = some k := by
  obtain ⟨m, hm⟩ : ∃ m, n - k = m + 1 := ⟨n - k - 1, by omega⟩
  rw [hm]
  show (if lessQ (prQ l k) (f, 1) = false then some k else drpQ l f (k + 1) m) = _
  rw [if_pos hl]

set_option maxHeartbeats 3200000 in
set_option maxRecDepth 100000 in
theorem VolumeFor_any (p : Plt) (pr : Int) (a : Option Addr) (cap : Nat) (w : World) (hlen : p.pts.length ≤ 1000) (hr : Reads w a (p.pts.length * 2) (fracs p.pts)) :
    Calls Tryz.prog 61 #[.agg (plC p a cap), .int .i64 pr] w fun e w' => e = .returned (.tuple #[.int .i64 (vlfR p pr).1, .int .i64 (vlfR p pr).2]) ∧ Below w.heap.size w w' := by
  have HO := Lib.hid (fun W (hb : Below w.heap.size w W) => open_any p a cap W hlen (hr.to hb))
  have HE : Hid (firstE [(chP p).2, unl (wthn pr 0 1000) 2] = vlfE p pr) := Lib.hid rfl
  have HR : Hid (vlfR p pr = if vlfE p pr = 0 then (match vlfD p pr with | some d => ((d : Int), 0) | none => (0, 12)) else (0, vlfE p pr)) := Lib.hid rfl
  have HOK := Lib.hid (fun (h : vlfE p pr = 0) => (show PltOk p ∧ 0 ≤ pr ∧ pr ≤ 1000 from by
    obtain ⟨h1, h2⟩ := firstE2.1 (show firstE [(chP p).2, unl (wthn pr 0 1000) 2] = 0 from h)
    rw [unlZ (by decide), wthn_iff] at h2
    exact ⟨chP_ok h1, h2⟩))
  obtain ⟨ve, hve⟩ : ∃ e, vlfE p pr = e := ⟨_, rfl⟩
  obtain ⟨⟨r1, r2⟩, hrr⟩ : ∃ e, vlfR p pr = e := ⟨_, rfl⟩
  obtain ⟨ce, hce⟩ : ∃ e, (chP p).2 = e := ⟨_, rfl⟩
  rw [hve] at HE HR HOK
  rw [hrr] at HR ⊢
  rw [hce] at HE
  have HCE := Lib.hid hce
  clear hve hrr hce hr
  dsimp only at *
  by_cases h0 : ve = 0
  · subst h0
    rw [if_pos rfl] at HR
    obtain ⟨hp, hpr0, hpr1⟩ := HOK.out rfl
    have HCP := Lib.hid (fun W al cl hrl => capacity_any p a al cap cl W (by have := hp.pts.two; omega) (by omega) hrl)
    have HPR := Lib.hid (fun W al cl x (hx : 0 ≤ x ∧ x ≤ capV p.pts) hrl => pressure_any p x a al cap cl W (OnOk.of_pts hp.pts hx.1 hx.2) hrl)
    have HBL := Lib.hid (fun W x (hx : 0 ≤ x ∧ x ≤ capV p.pts) => (show Calls Tryz.prog 100 _ W _ from oBelow_any (prQ p.pts x) pr W (by have := QOk.of_pts hp.pts hx.1 hx.2; exact ⟨by have := this.n0; omega, by have := this.n1; omega⟩) (by have := QOk.of_pts hp.pts hx.1 hx.2; exact ⟨by have := this.d0; omega, by have := this.d1; omega⟩) ⟨by omega, by omega⟩))
    have hc0 := cap_pos hp
    have hc1 := cap_le hp
    have HD : Hid (vlfD p pr = drpQ p.pts pr 0 (capV p.pts + 1).toNat) := Lib.hid rfl
    obtain ⟨dr, hdr⟩ : ∃ d, vlfD p pr = d := ⟨_, rfl⟩
    rw [hdr] at HD HR
    obtain ⟨C, hC⟩ : ∃ c, capV p.pts = c := ⟨_, rfl⟩
    rw [hC] at HCP HPR HBL HD hc0 hc1
    obtain ⟨N, hN⟩ : ∃ N : Nat, (C + 1).toNat = N := ⟨_, rfl⟩
    have hCN : C + 1 = (N : Int) := by omega
    rw [hN] at HD
    clear hdr hC hN hp HOK hlen
    go_enter Tryz.func61, Tryz.ntmps61
    go_wp2_with fail
    refine (HO.out _ (bAlloc (bSelf w) _)).mono ?_
    rintro e w1 ⟨al, cl, rfl, hcl, hrd, hb, hfr⟩
    have HB := Lib.hid (bThen (bAlloc (bSelf w) _) hb)
    have HRD := Lib.hid hrd
    clear hb hrd hfr HO
    rw [HCE.out]
    have K6 := Lib.hid (fun o2 => (Blk.new w1 (plL p a cap al cl) 170).alloc o2)
    have k6 : ∀ (o2 : Obj) (o : Nat), ((w1.alloc (.cells (plL p a cap al cl) 170)).alloc o2).cell? ⟨w1.heap.size, o, none⟩ = (plL p a cap al cl)[o]? := fun o2 => (K6.out o2).2.1
    go_wp2_with (first | (go_at_call 135; refine (isPressure_any _ _).mono ?_; rintro e w' ⟨rfl, rfl⟩) | (go_at_call 94; refine (oUnless_any _ _ _).mono ?_; rintro e w' ⟨rfl, rfl⟩) | (go_at_call 92; refine (oFirst2_new _ _ _ _ (by simp)).mono ?_; rintro e w' ⟨rfl, rfl⟩; rw [HE.out]))
    clear k6
    obtain ⟨W2, hW2⟩ : ∃ W2, (w1.alloc (.cells (plL p a cap al cl) 170)).alloc (.cells #[.int .i64 ce, .int .i64 (unl (wthn pr 0 1000) 2)] 29) = W2 := ⟨_, rfl⟩
    rw [hW2]
    have K7 : Hid (Blk W2 w1.heap.size (plL p a cap al cl)) := by subst hW2; exact Lib.hid (K6.out _)
    have hb2 : Below w1.heap.size w1 W2 := by subst hW2; exact bAlloc (bAlloc (bSelf _) _) _
    replace HRD := Lib.hid (HRD.out.to hb2)
    replace HB := Lib.hid (bThen HB.out hb2)
    clear hW2 hb2 K6
    refine (HCP.out _ al cl HRD.out).mono ?_
    rintro e w2 ⟨rfl, hb⟩
    replace K7 := Lib.hid (K7.out.to hb)
    replace HRD := Lib.hid (HRD.out.to hb)
    replace HB := Lib.hid (bThen HB.out hb)
    clear hb HCP
    go_wp2_with fail
    go_loopw [8, 26] (fun _ v26 wr => ∃ k : Nat, v26 = .int .i64 k ∧ k ≤ N ∧ Hid (dr = drpQ p.pts pr k (N - k)) ∧ Hid (Below w2.heap.size w2 wr)) (fun _ v26 _ => N - (intOf v26).toNat)
    case atStart => exact ⟨0, rfl, Nat.zero_le _, Lib.hid (by rw [HD.out]; rfl), Lib.hid (bSelf w2)⟩
    case round =>
      obtain ⟨k, rfl, hk, hdk, HBr⟩ := hrel
      obtain ⟨wo, hwo⟩ : ∃ wo, wo = wr := ⟨_, rfl⟩
      subst hwo
      by_cases hlt : k < N
      · have hkC : (0 : Int) ≤ (k : Int) ∧ (k : Int) ≤ C := by omega
        obtain ⟨-, k7, -⟩ := K7.out.to HBr.out
        go_wp2_with fail
        refine (HPR.out _ al cl k hkC (HRD.out.to HBr.out)).mono ?_
        rintro e w3 ⟨rfl, hb⟩
        have HB3 : Hid (Below w2.heap.size w2 w3) := Lib.hid (bThen HBr.out hb)
        clear hb HBr k7
        have HBk := Lib.hid (fun W => HBL.out W k hkC)
        cases hl : lessQ (prQ p.pts k) (pr, 1) with
        | true =>
          have HS := Lib.hid (drpQ_step hlt hl)
          rw [hl] at HBk
          clear hl
          go_wp2_with (go_at_call 100; refine (HBk.out _).mono ?_; rintro e w' ⟨rfl, hb⟩; have hb := Lib.hid hb)
          go_roundw
          case rel => exact ⟨k + 1, by go_num, by omega, Lib.hid (hdk.out.trans HS.out), Lib.hid (bThen HB3.out hb.out)⟩
          case measure => simp [intOf]; omega
        | false =>
          have HS := Lib.hid (drpQ_stop hlt hl)
          rw [hl] at HBk
          clear hl
          have hR := HR.out
          rw [hdk.out, HS.out] at hR
          injection hR with hR1 hR2
          subst hR1 hR2
          go_wp2_with (go_at_call 100; refine (HBk.out _).mono ?_; rintro e w' ⟨rfl, hb⟩; have hb := Lib.hid hb)
          refine bodyPost_ret (results_tmp2 rfl _ _ _) rfl ?_
          exact ⟨rfl, bThen HB.out (bThen HB3.out hb.out)⟩
      · obtain rfl : k = N := by omega
        have hR := HR.out
        have hdn : dr = none := by rw [hdk.out, Nat.sub_self]; rfl
        rw [hdn] at hR
        injection hR with hR1 hR2
        subst hR1 hR2
        clear hdn
        go_wp2_with fail
        refine bodyPost_ret (results_tmp2 rfl _ _ _) rfl ?_
        exact ⟨rfl, bThen HB.out HBr.out⟩
  · have h0' : (ve != 0) = true := by simpa using h0
    rw [if_neg h0] at HR
    have hA := HR.out
    injection hA with hA1 hA2
    subst hA1 hA2
    clear h0 HOK hlen HR
    go_enter Tryz.func61, Tryz.ntmps61
    go_wp2_with fail
    refine (HO.out _ (bAlloc (bSelf w) _)).mono ?_
    rintro e w1 ⟨al, cl, rfl, hcl, hrd, hb, hfr⟩
    have HB := Lib.hid (bThen (bAlloc (bSelf w) _) hb)
    clear hb hrd hfr HO
    rw [HCE.out]
    go_wp2_with (first | (go_at_call 135; refine (isPressure_any _ _).mono ?_; rintro e w' ⟨rfl, rfl⟩) | (go_at_call 94; refine (oUnless_any _ _ _).mono ?_; rintro e w' ⟨rfl, rfl⟩) | (go_at_call 92; refine (oFirst2_new _ _ _ _ (by simp)).mono ?_; rintro e w' ⟨rfl, rfl⟩; rw [HE.out]))
    refine bodyPost_ret (results_tmp2 rfl _ _ _) rfl ?_
    exact ⟨rfl, bAlloc (bAlloc HB.out _) _⟩

end Go.Proofs.YtjfedpblkejmkaaGreat

/-
  Contracts of the base: Mod, Compare at once, IsSmall; areLowest of the statements.
-/
namespace Go.Proofs.YtjfedpblkejmkaaGreat
open Go.RowKit

set_option maxHeartbeats 400000 in
theorem IsSmall_yes (p : Int × Int) (w : World) (hp : SmF p) :
    Calls Tryz.prog 138 #[.agg #[.int .i64 p.1, .int .i64 p.2]] w fun e w' => e = .returned (.bool true) ∧ Below w.heap.size w w' := by
  obtain ⟨n, d⟩ := p
  obtain ⟨n0, n1, d0, d1⟩ := hp
  dsimp only at n0 n1 d0 d1 ⊢
  have e1 : (decide (-1000000000 ≤ n) && decide (n ≤ 1000000000)) = true := by rw [decide_eq_true n0, decide_eq_true n1]; rfl
  have e2 : (decide (1 ≤ d) && decide (d ≤ 1000000000)) = true := by rw [decide_eq_true d0, decide_eq_true d1]; rfl
  have E1 := Lib.hid e1
  have E2 := Lib.hid e2
  clear e1 e2
  go_enter Tryz.func138, Tryz.ntmps138
  go_wp2_with fail
  refine (bWithin_any _ _ _ _).mono ?_
  rintro e w' ⟨rfl, rfl⟩
  rw [E1.out]
  go_wp2_with fail
  refine (bWithin_any _ _ _ _).mono ?_
  rintro e w' ⟨rfl, rfl⟩
  rw [E2.out]
  go_wp2_with fail
  go_ret
  exact ⟨rfl, bAlloc (bSelf w) _⟩

end Go.Proofs.YtjfedpblkejmkaaGreat

/-
  Base: WideInt, RatioFrac at small fractions, Cmp of fractions.
-/
namespace Go.Proofs.YtjfedpblkejmkaaGreat
open Go.RowKit
attribute [local go_sem] Oper.semAt_some

theorem Dig.drop {l : List Int} (h : Dig l) (n : Nat) : Dig (l.drop n) := fun d hd => h d (List.mem_of_mem_drop hd)
theorem val_dropS {l : List Int} {k : Nat} (hk : k < l.length) : val (l.drop k) = gi l k + 1000000000 * val (l.drop (k + 1)) := by
  rw [gi_drop l k hk]; rfl
theorem val_drop_le {l : List Int} (hd : Dig l) : ∀ k, 0 ≤ val (l.drop k) ∧ val (l.drop k) ≤ val l
  | 0 => ⟨val_nonneg hd, Int.le_refl _⟩
  | k + 1 => by
    obtain ⟨h1, h2⟩ := val_drop_le hd k
    refine ⟨val_nonneg (hd.drop _), ?_⟩
    by_cases hk : k < l.length
    · have := val_dropS hk
      have h3 := (hd.at k).1
      have h4 := val_nonneg (hd.drop (k + 1))
      omega
    · rw [List.drop_of_length_le (by omega)]
      exact val_nonneg hd
theorem sign_val (z : Int) : z.sign * val (dg z) = z := by rw [val_dg]; exact Int.sign_mul_natAbs z

set_option maxHeartbeats 1600000 in
set_option maxRecDepth 100000 in
theorem WideInt_any (z : Int) (a : Option Addr) (v : Value) (w : World) (h1 : -1000000000000000000 < z) (h2 : z < 1000000000000000000) (hw : RW w a v z) :
    Calls Tryz.prog 118 #[v] w fun e w' => e = .returned (.tuple #[.int .i64 z, .bool true]) ∧ Below w.heap.size w w' := by
  obtain ⟨cap, rfl, hcap, hr⟩ := hw
  have hlen : (dg z).length ≤ 2 := digs_len 2 z.natAbs (Nat.lt_of_lt_of_eq (show z.natAbs < 1000000000000000000 by omega) (by decide))
  have HD := Lib.hid (dg_dig z)
  have HZ := Lib.hid (sign_val z)
  have hV : val (dg z) < 1000000000000000000 := by rw [val_dg]; omega
  have hs := sign_bd z
  obtain ⟨sg, hsg⟩ : ∃ s, z.sign = s := ⟨_, rfl⟩
  obtain ⟨l, hl⟩ : ∃ l, dg z = l := ⟨_, rfl⟩
  rw [hl] at hlen HD HZ hV hr hcap ⊢
  rw [hsg] at HZ hs ⊢
  have HR := Lib.hid hr
  have HDR := Lib.hid (fun k => val_drop_le HD.out k)
  obtain ⟨n, hn⟩ : ∃ n, l.length = n := ⟨_, rfl⟩
  have HN := Lib.hid hn
  rw [hn] at hlen HR hcap ⊢
  obtain ⟨V, hVV⟩ : ∃ V, val l = V := ⟨_, rfl⟩
  rw [hVV] at hV HZ HDR
  have HVV := Lib.hid hVV
  clear hr hl hsg hn hVV h1 h2
  go_enter Tryz.func118, Tryz.ntmps118
  go_wp2_with fail
  obtain ⟨W, hW⟩ : ∃ W, w.alloc (.cells #[.int .i64 sg, .slice a n cap] 110) = W := ⟨_, rfl⟩
  rw [hW]
  have K1 : Hid (Blk W w.heap.size #[.int .i64 sg, .slice a n cap]) := by subst hW; exact Lib.hid (Blk.new _ _ _)
  have HB : Hid (Below w.heap.size w W) := by subst hW; exact Lib.hid (bAlloc (bSelf w) _)
  replace HR : Hid (Reads W a n (ints l)) := by subst hW; exact Lib.hid (HR.out.alloc _)
  clear hW
  obtain ⟨-, k1, -⟩ := K1.out
  go_wp2_with fail
  go_loopw [4, 5] (fun s4 s5 wr => ∃ k : Nat, k ≤ n ∧ s5 = .int .i64 ((n : Int) - 1 - (k : Int)) ∧ s4 = .int .i64 (val (l.drop (n - k))) ∧ Hid (Below W.heap.size W wr)) (fun _ s5 _ => (intOf s5 + 1).toNat)
  case atStart => exact ⟨0, Nat.zero_le _, by simp, by rw [Nat.sub_zero, ← HN.out, List.drop_length]; rfl, Lib.hid (bSelf W)⟩
  case round =>
    obtain ⟨k, hk, rfl, rfl, hB⟩ := hrel
    obtain ⟨-, k1, -⟩ := K1.out.to hB.out
    by_cases hlt : k < n
    · obtain ⟨j, hj⟩ : ∃ j, n - k = j + 1 := ⟨n - k - 1, by omega⟩
      rw [hj]
      obtain ⟨b, off, rfl, hb, hc⟩ := (HR.out.to hB.out).at (k := j) (by omega)
      obtain ⟨d, hd⟩ : ∃ d, gi l j = d := ⟨_, rfl⟩
      have c0 : wr.cell? ⟨b, off + j, none⟩ = some (.int .i64 d) := by have := hc j (by omega); rw [show ints l j = .int .i64 (gi l j) from rfl, hd] at this; exact this
      have hdd := HD.out.at j
      rw [hd] at hdd
      have hdr := HDR.out (j + 1)
      have hdj := HDR.out j
      have hst := val_dropS (l := l) (k := j) (by have := HN.out; omega)
      rw [hd] at hst
      have HST := Lib.hid hst
      obtain ⟨y, hy⟩ : ∃ y, val (l.drop (j + 1)) = y := ⟨_, rfl⟩
      obtain ⟨x, hx⟩ : ∃ y, val (l.drop j) = y := ⟨_, rfl⟩
      rw [hy] at hdr hst ⊢
      rw [hx] at hdj hst
      rw [hy] at HST
      have hij : (n : Int) - 1 - (k : Int) = (j : Int) := by omega
      rw [hij]
      have HIJ := Lib.hid hij
      have HJ := Lib.hid hj
      have hjn : (j : Int) < (n : Int) := by omega
      clear hc hd hy hx hij hj hlt
      go_wp2_with fail
      go_roundw
      case rel => exact ⟨k + 1, by have := HJ.out; omega, congrArg (Value.int .i64) (by have := HIJ.out; omega), congrArg (Value.int .i64) (by have := HJ.out; rw [show n - (k + 1) = j by omega, HST.out]; omega), hB⟩
      case measure => simp [intOf]
    · have hnk : n - k = 0 := by omega
      have hij : (n : Int) - 1 - (k : Int) = -1 := by omega
      rw [hnk, hij]
      have HV0 : Hid (val (l.drop 0) = V) := Lib.hid (by rw [List.drop_zero]; exact HVV.out)
      rw [HV0.out]
      have hV0 : 0 ≤ V := by have := (HDR.out 0).1; rw [HV0.out] at this; exact this
      have hzb : -1000000000000000000 < sg * V ∧ sg * V < 1000000000000000000 := by
        obtain ⟨s1, s2⟩ := hs
        have : sg = -1 ∨ sg = 0 ∨ sg = 1 := by omega
        rcases this with rfl | rfl | rfl <;> omega
      obtain ⟨z1, z2⟩ := hzb
      clear hij hnk hlt
      go_wp2_with fail
      refine bodyPost_ret (results_tmp2 rfl _ _ _) rfl ?_
      exact ⟨by rw [← HZ.out]; rfl, bThen HB.out hB.out⟩

set_option maxHeartbeats 800000 in
set_option maxRecDepth 100000 in
theorem bCmp_any (p q : Int × Int) (w : World) (h1 : -1000000000 ≤ p.1 ∧ p.1 ≤ 1000000000) (h2 : -1000000000 ≤ p.2 ∧ p.2 ≤ 1000000000) (h3 : -1000000000 ≤ q.1 ∧ q.1 ≤ 1000000000) (h4 : -1000000000 ≤ q.2 ∧ q.2 ≤ 1000000000) :
    Calls Tryz.prog 21 #[.agg #[.int .i64 p.1, .int .i64 p.2], .agg #[.int .i64 q.1, .int .i64 q.2]] w fun e w' => e = .returned (.int .i64 (cmpQ p q)) ∧ Below w.heap.size w w' := by
  obtain ⟨a, b⟩ := p
  obtain ⟨c, d⟩ := q
  dsimp only at h1 h2 h3 h4 ⊢
  obtain ⟨m1, m2⟩ := mul_bd (A := 1000000000) (B := 1000000000) h1.1 h1.2 h4.1 h4.2
  obtain ⟨m3, m4⟩ := mul_bd (A := 1000000000) (B := 1000000000) h3.1 h3.2 h2.1 h2.2
  have HC : Hid (cmpQ (a, b) (c, d) = (a * d - c * b).sign) := Lib.hid rfl
  obtain ⟨x, hx⟩ : ∃ x, a * d = x := ⟨_, rfl⟩
  obtain ⟨y, hy⟩ : ∃ y, c * b = y := ⟨_, rfl⟩
  obtain ⟨r, hr⟩ : ∃ r, cmpQ (a, b) (c, d) = r := ⟨_, rfl⟩
  rw [hr, hx, hy] at HC
  rw [hr]
  have HX := Lib.hid hx
  have HY := Lib.hid hy
  have hc : x < y ∨ (¬ x < y ∧ y < x) ∨ (¬ x < y ∧ ¬ y < x) := by omega
  clear hr h1 h2 h3 h4
  rcases hc with g | ⟨g, g'⟩ | ⟨g, g'⟩
  all_goals
    have HG := Lib.hid g
    try have HG' := Lib.hid g'
    go_enter Tryz.func21, Tryz.ntmps21
    go_wp2_with fail
    obtain ⟨W, hW⟩ : ∃ W, (w.alloc (.cells #[.int .i64 a, .int .i64 b] 28)).alloc (.cells #[.int .i64 c, .int .i64 d] 28) = W := ⟨_, rfl⟩
    rw [hW]
    have K1 : Hid (Blk W w.heap.size #[.int .i64 a, .int .i64 b]) := by subst hW; exact Lib.hid ((Blk.new _ _ _).alloc _)
    have K2 : Hid (Blk W (w.heap.size + 1) #[.int .i64 c, .int .i64 d]) := by subst hW; exact Lib.hid (Blk.newAt _ _ _ (by simp))
    have HB : Hid (Below w.heap.size w W) := by subst hW; exact Lib.hid (bAlloc (bAlloc (bSelf w) _) _)
    clear hW
    refine wp_region_quiet_all (fun w' => Below (World.heap W).size (W) w') (by kernel_rfl) (by kernel_rfl) (Below.refl _ _).drew ?_
    refine WQ.out ?_
    repeat (first | (refine WQ_no (by rfl) ?_; (simp only [Act.put, List.setIfInBounds_toArray, List.set_cons_zero, List.set_cons_succ])) | (refine WQ_yes (by rfl) ?_; apply Exists.intro; refine ⟨fun w1 hb1 => ?_, ?_⟩; (focus (((obtain ⟨-, k1, -⟩ := K1.out.to hb1; obtain ⟨-, k2, -⟩ := K2.out.to hb1; have hx := HX.out; have hy := HY.out); have hb1 := Lib.hid hb1; go_simp); (try (go_bits; try go_simp)); (try (rw [if_pos (by omega)]; try go_simp)); (first | done | (fail) | (with_reducible rfl) | exact rfl))); (simp only [Act.put, List.setIfInBounds_toArray, List.set_cons_zero, List.set_cons_succ])))
    refine WQ_nil ?_
    intro w1 hb1
    go_wp2_with fail
    go_ret
    exact ⟨ret_int (by
      rw [HC.out]
      have := HG.out
      first | (rw [Int.sign_eq_neg_one_of_neg (by omega)]) | (have := HG'.out; rw [Int.sign_eq_one_of_pos (by omega)]) | (have := HG'.out; rw [show x - y = 0 by omega]; rfl)), bThen HB.out hb1⟩

/-- A small fraction out of one of any size. -/
theorem RatioFrac_any (q : Int × Int) (a1 a2 : Option Addr) (v : Value) (w : World) (hs : SmF q) (hr : RR w a1 a2 v q) :
    Calls Tryz.prog 63 #[v] w fun e w' => e = .returned (.tuple #[.agg #[.int .i64 q.1, .int .i64 q.2], .bool true]) ∧ Below w.heap.size w w' := by
  obtain ⟨s1, n1, c1, s2, n2, c2, rfl, h1, h2⟩ := hr
  have HW1 := Lib.hid (fun W (hb : Below w.heap.size w W) => WideInt_any q.1 a1 _ W (by have := hs.n0; omega) (by have := hs.n1; omega) (h1.to hb))
  have HW2 := Lib.hid (fun W (hb : Below w.heap.size w W) => WideInt_any q.2 a2 _ W (by have := hs.d0; omega) (by have := hs.d1; omega) (h2.to hb))
  have HS := Lib.hid (fun W => IsSmall_yes q W hs)
  obtain ⟨p1, p2⟩ := q
  dsimp only at HW1 HW2 HS ⊢
  clear h1 h2 hs
  go_enter Tryz.func63, Tryz.ntmps63
  go_wp2_with fail
  obtain ⟨W, hW⟩ : ∃ W, (w.alloc (.cells #[.int .i64 s1, .slice a1 n1 c1, .int .i64 s2, .slice a2 n2 c2] 112)).alloc (.cells #[.int .i64 0, .int .i64 0] 28) = W := ⟨_, rfl⟩
  rw [hW]
  have K1 : Hid (Blk W w.heap.size #[.int .i64 s1, .slice a1 n1 c1, .int .i64 s2, .slice a2 n2 c2]) := by subst hW; exact Lib.hid ((Blk.new _ _ _).alloc _)
  have K2 : Hid (Blk W (w.heap.size + 1) #[.int .i64 0, .int .i64 0]) := by subst hW; exact Lib.hid (Blk.newAt _ _ _ (by simp))
  have HB : Hid (Below w.heap.size w W) := by subst hW; exact Lib.hid (bAlloc (bAlloc (bSelf w) _) _)
  clear hW
  obtain ⟨-, k1, -⟩ := K1.out
  go_wp2_with fail
  refine (HW1.out _ HB.out).mono ?_
  rintro e w1 ⟨rfl, hb⟩
  replace K1 := Lib.hid (K1.out.to hb)
  replace K2 := Lib.hid (K2.out.to hb)
  replace HB := Lib.hid (bThen HB.out hb)
  clear hb k1
  obtain ⟨-, k1, -⟩ := K1.out
  go_wp2_with fail
  refine (HW2.out _ HB.out).mono ?_
  rintro e w2 ⟨rfl, hb⟩
  replace K2 := Lib.hid (K2.out.to hb)
  replace HB := Lib.hid (bThen HB.out hb)
  clear hb k1 K1
  go_wp2_with fail
  refine (HS.out _).mono ?_
  rintro e w3 ⟨rfl, hb⟩
  have K8 := Lib.hid ((Blk.new w2 #[.int .i64 p1, .int .i64 p2] 28).to hb)
  replace K2 := Lib.hid ((K2.out.alloc _).to hb)
  replace HB := Lib.hid (bThen (bAlloc HB.out _) hb)
  clear hb
  obtain ⟨-, k8, -⟩ := K8.out
  obtain ⟨-, k2, f2⟩ := K2.out
  go_wp2_with fail
  have F := (K2.out.set 0 (.int .i64 p1)).set 1 (.int .i64 p2)
  have F0 := F.2.1 0
  have F1 := F.2.1 1
  clear F k2 f2 k8
  refine bodyPost_ret (v := .tuple #[.agg #[.int .i64 p1, .int .i64 p2], .bool true]) ?_ rfl ⟨rfl, ?_⟩
  · simp [results, Tryz.results63, go_sem, F0, F1]
  · exact (HB.out.setCell (p := ⟨w.heap.size + 1, 0, none⟩) (by simp) _).setCell (p := ⟨w.heap.size + 1, 1, none⟩) (by simp) _

end Go.Proofs.YtjfedpblkejmkaaGreat

/-
  Plain laws for OilPlants: what the program answers, by the errors of the plant.
-/
namespace Go.Proofs.YtjfedpblkejmkaaGreat
open Go.RowKit

theorem pl_bad {p : Plt} (h : (chP p).2 ≠ 0) (x y : Int) : opSE p x = (chP p).2 ∧ prsR p x = (0, 0) ∧ vlfR p y = (0, (chP p).2) := by
  have e1 : opSE p x = (chP p).2 := by unfold opSE; rw [if_neg h]
  have e2 : vlfE p y = (chP p).2 := by unfold vlfE firstE; rw [if_neg h]
  exact ⟨e1, by unfold prsR; rw [e1, if_neg h], by unfold vlfR; rw [e2, if_neg h]⟩
theorem pl_err {p : Plt} (h : (chP p).2 = 0) (x : Int) : opSE p x = unl (wthn x 0 (capV p.pts)) 2 := by
  unfold opSE; rw [if_pos h]; rfl
theorem pl_out {p : Plt} (h : (chP p).2 = 0) {x : Int} (hx : wthn x 0 (capV p.pts) = false) : opSE p x = 2 ∧ prsR p x = (0, 0) := by
  have e1 := pl_err h x
  rw [hx] at e1
  exact ⟨e1, by unfold prsR; rw [e1]; rfl⟩
theorem smF_frQ {q : Int × Int} (h : QOk q) : SmF (fr q.1 q.2) := by
  have h1 := fr_pos (n := q.1) (show 0 < q.2 from h.d0)
  have h2 := fr_bd1 (n := q.1) (m := q.2) (B := 1000000000) (by have := h.n0; have := h.n1; omega)
  have h3 := fr_bd2 (n := q.1) (m := q.2) (B := 1000000000) (by have := h.d0; have := h.d1; omega)
  exact ⟨by omega, by omega, by omega, by omega⟩
theorem pl_in {p : Plt} (h : (chP p).2 = 0) {x : Int} (hx : wthn x 0 (capV p.pts) = true) : opSE p x = 0 ∧ prsR p x = rPr p.pts x ∧ SmF (rPr p.pts x) ∧ 0 < (rPr p.pts x).2 := by
  have e1 := pl_err h x
  rw [hx] at e1
  have hp := (chP_ok h).pts
  have hw := wthn_iff.1 hx
  have e2 := rPr_eq hp hw.1 hw.2
  have hq := QOk.of_pts hp hw.1 hw.2
  refine ⟨e1, by unfold prsR; rw [e1, e2]; rfl, by rw [e2]; exact smF_frQ hq, by rw [e2]; exact fr_pos (show 0 < (prQ p.pts x).2 from hq.d0)⟩
theorem pl_up {p : Plt} (h : (chP p).2 = 0) {x : Int} (hx : wthn x 0 (capV p.pts) = true) (hc : x < capV p.pts) : cmpQ (rPr p.pts (x + 1)) (rPr p.pts x) = 1 := by
  have hp := (chP_ok h).pts
  have hw := wthn_iff.1 hx
  rw [cmpQ_up hp (by omega) (by omega) hw.1 hw.2, show x + 1 - x = 1 by omega]
  rfl
theorem pl_vol {p : Plt} {y : Int} (h : (chP p).2 = 0) : vlfE p y = unl (wthn y 0 1000) 2 := by
  unfold vlfE firstE; rw [if_pos h]; unfold firstE; cases wthn y 0 1000 <;> rfl
theorem pl_bound {p : Plt} {y : Int} (h : (chP p).2 = 0) (hy : wthn y 0 1000 = false) : vlfR p y = (0, 2) := by
  unfold vlfR; rw [pl_vol h, hy]; rfl
theorem pl_none {p : Plt} {y : Int} (h : (chP p).2 = 0) (hy : wthn y 0 1000 = true) (hd : vlfD p y = none) : vlfR p y = (0, 12) := by
  unfold vlfR; rw [pl_vol h, hy, hd]; rfl
theorem pl_some {p : Plt} {y : Int} {d : Nat} (h : (chP p).2 = 0) (hy : wthn y 0 1000 = true) (hd : vlfD p y = some d) : vlfR p y = ((d : Int), 0) ∧ wthn (d : Int) 0 (capV p.pts) = true ∧ decide (cmpQ (rPr p.pts d) (y, 1) < 0) = false ∧ ∀ j : Nat, j + 1 = d → wthn (j : Int) 0 (capV p.pts) = true ∧ decide (cmpQ (rPr p.pts j) (y, 1) < 0) = true := by
  have hp := (chP_ok h).pts
  have hc := cap_pos (chP_ok h)
  obtain ⟨-, h2, h3, h4⟩ := drpQ_some (show drpQ p.pts y 0 (capV p.pts + 1).toNat = some d from hd)
  have hw : wthn (d : Int) 0 (capV p.pts) = true := wthn_iff.2 ⟨by omega, by omega⟩
  have key : ∀ j : Nat, j ≤ d → decide (cmpQ (rPr p.pts j) (y, 1) < 0) = lessQ (prQ p.pts j) (y, 1) := fun j hj => by
    have hq := QOk.of_pts hp (show (0 : Int) ≤ (j : Int) by omega) (show (j : Int) ≤ capV p.pts by omega)
    rw [rPr_eq hp (by omega) (by omega)]
    exact cmp_lt (N := (prQ p.pts j).1) y (show 0 < (prQ p.pts j).2 by have := hq.d0; omega)
  refine ⟨by unfold vlfR; rw [pl_vol h, hy, hd]; rfl, hw, by rw [key d (Nat.le_refl _), h3], fun j hj => ⟨wthn_iff.2 ⟨by omega, by omega⟩, by rw [key j (by omega)]; exact h4 j (by omega) (by omega)⟩⟩

end Go.Proofs.YtjfedpblkejmkaaGreat

/-
  The reference: VolumeFor.
-/
namespace Go.Proofs.YtjfedpblkejmkaaGreat
open Go.RowKit
attribute [local go_sem] Oper.semAt_some

set_option maxHeartbeats 3200000 in
set_option maxRecDepth 100000 in
theorem rVolumeFor_any (p : Plt) (pr : Int) (a : Option Addr) (cap : Nat) (w : World) (hp : PltOk p) (hpr : -100000 ≤ pr ∧ pr ≤ 100000) (hr : Reads w a (p.pts.length * 2) (fracs p.pts)) :
    Calls Tryz.prog 65 #[.agg (plC p a cap), .int .i64 pr] w fun e w' => e = .returned (.tuple #[.int .i64 (((vlfD p pr).getD 0 : Nat) : Int), .bool (vlfD p pr).isSome]) ∧ Below w.heap.size w w' := by
  have hc0 := cap_pos hp
  have hc1 := cap_le hp
  have HCP := Lib.hid (fun W (hb : Below w.heap.size w W) => rCapacity_any p a cap W (by have := hp.pts.two; omega) (by have := hp.pts.few; omega) (hr.to hb))
  have HBL := Lib.hid (fun W (x : Int) (hx : 0 ≤ x ∧ x ≤ capV p.pts) (hb : Below w.heap.size w W) => rBelow_any p (x, false) pr a cap W hp.pts hx hpr (hr.to hb))
  have HD : Hid (vlfD p pr = drpQ p.pts pr 0 (capV p.pts + 1).toNat) := Lib.hid rfl
  obtain ⟨dr, hdr⟩ : ∃ d, vlfD p pr = d := ⟨_, rfl⟩
  rw [hdr] at HD ⊢
  obtain ⟨C, hC⟩ : ∃ c, capV p.pts = c := ⟨_, rfl⟩
  rw [hC] at HCP HBL HD hc0 hc1
  obtain ⟨N, hN⟩ : ∃ N : Nat, (C + 1).toNat = N := ⟨_, rfl⟩
  have hCN : C + 1 = (N : Int) := by omega
  rw [hN] at HD
  unfold plC at HCP HBL ⊢
  dsimp only at HBL
  clear hdr hC hN hp hr hpr
  go_enter Tryz.func65, Tryz.ntmps65
  go_wp2_with fail
  obtain ⟨W, hW⟩ : ∃ W, w.alloc (.cells #[.slice a p.pts.length cap, .int .i64 p.pump, .int .i64 p.on, .int .i64 p.off] 44) = W := ⟨_, rfl⟩
  rw [hW]
  have K2 : Hid (Blk W w.heap.size #[.slice a p.pts.length cap, .int .i64 p.pump, .int .i64 p.on, .int .i64 p.off]) := by subst hW; exact Lib.hid (Blk.new _ _ _)
  have HB : Hid (Below w.heap.size w W) := by subst hW; exact Lib.hid (bAlloc (bSelf w) _)
  clear hW
  go_loopw [6] (fun s6 wr => ∃ k : Nat, s6 = .int .i64 k ∧ k ≤ N ∧ Hid (dr = drpQ p.pts pr k (N - k)) ∧ Hid (Below W.heap.size W wr)) (fun s6 _ => N - (intOf s6).toNat)
  case atStart => exact ⟨0, rfl, Nat.zero_le _, Lib.hid (by rw [HD.out]; rfl), Lib.hid (bSelf W)⟩
  case round =>
    obtain ⟨k, rfl, hk, hdk, HBr⟩ := hrel
    obtain ⟨-, k2, -⟩ := K2.out.to HBr.out
    go_wp2_with fail
    refine (HCP.out _ (bThen HB.out HBr.out)).mono ?_
    rintro e w3 ⟨rfl, hb⟩
    replace HBr := Lib.hid (bThen HBr.out hb)
    clear hb k2
    by_cases hlt : k < N
    · have hkC : (0 : Int) ≤ (k : Int) ∧ (k : Int) ≤ C := by omega
      have hkC1 : (k : Int) ≤ C := hkC.2
      have HBk := Lib.hid (fun W hb => HBL.out W k hkC hb)
      obtain ⟨-, k2, -⟩ := K2.out.to HBr.out
      cases hl : lessQ (prQ p.pts k) (pr, 1) with
      | true =>
        have HS := Lib.hid (drpQ_step hlt hl)
        rw [hl] at HBk
        clear hl
        go_wp2_with (go_at_call 43; refine (HBk.out _ (bThen HB.out HBr.out)).mono ?_; rintro e w' ⟨rfl, hb⟩; have hb := Lib.hid hb)
        go_roundw
        case rel => exact ⟨k + 1, by go_num, by omega, Lib.hid (hdk.out.trans HS.out), Lib.hid (bThen HBr.out hb.out)⟩
        case measure => simp [intOf]; omega
      | false =>
        have HS := Lib.hid (drpQ_stop hlt hl)
        rw [hl] at HBk
        clear hl
        have hR := hdk.out.trans HS.out
        subst hR
        go_wp2_with (go_at_call 43; refine (HBk.out _ (bThen HB.out HBr.out)).mono ?_; rintro e w' ⟨rfl, hb⟩; have hb := Lib.hid hb)
        go_ret2
        exact ⟨rfl, bThen HB.out (bThen HBr.out hb.out)⟩
    · obtain rfl : k = N := by omega
      have hR : dr = none := by rw [hdk.out, Nat.sub_self]; rfl
      subst hR
      have hlt3 : C < (k : Int) := by omega
      go_wp2_with fail
      go_ret2
      exact ⟨rfl, bThen HB.out HBr.out⟩

end Go.Proofs.YtjfedpblkejmkaaGreat

/-
  OilPlants.
-/
namespace Go.Proofs.YtjfedpblkejmkaaGreat
open Go.RowKit
attribute [local go_sem] Oper.semAt_some

theorem cmp_rPr {p q : Int × Int} (W : World) (hp : SmF p) (hq : SmF q) :
    Calls Tryz.prog 21 #[.agg #[.int .i64 p.1, .int .i64 p.2], .agg #[.int .i64 q.1, .int .i64 q.2]] W fun e w' => e = .returned (.int .i64 (cmpQ p q)) ∧ Below W.heap.size W w' :=
  bCmp_any p q W ⟨hp.n0, hp.n1⟩ ⟨by have := hp.d0; omega, hp.d1⟩ ⟨hq.n0, hq.n1⟩ ⟨by have := hq.d0; omega, hq.d1⟩

set_option maxHeartbeats 12800000 in
set_option maxRecDepth 100000 in
theorem OilPlants_any (p : Plt) (v pr : Int) (a : Option Addr) (cap : Nat) (w : World) (hr : Reads w a (p.pts.length * 2) (fracs p.pts)) :
    Calls Tryz.prog 8 #[.agg (plC p a cap), .int .i64 v, .int .i64 pr] w fun e w' => e = .returned (.bool true) ∧ Below w.heap.size w w' := by
  have HAW := Lib.hid (fun W => oAwake_any W)
  have HFW := Lib.hid (fun W => lFew_any p a cap W)
  have HCPY := Lib.hid (fun W (h10 : p.pts.length ≤ 10) (hb : Below w.heap.size w W) => rCopyPlant_any p a cap W (by omega) (hr.to hb))
  have HCK := Lib.hid (fun W a1 c1 (h10 : p.pts.length ≤ 10) h1 => CheckPlant_any p a1 c1 W (by omega) h1)
  have HRC := Lib.hid (fun W (h10 : p.pts.length ≤ 10) (hb : Below w.heap.size w W) => rCheckPlant_any p a cap W (by omega) (hr.to hb))
  have HPA := Lib.hid (fun W a1 c1 (x : Int) (h10 : p.pts.length ≤ 10) h1 => PressureAt_any p x a1 c1 W (by omega) h1)
  have HVF := Lib.hid (fun W a1 c1 (h10 : p.pts.length ≤ 10) h1 => VolumeFor_any p pr a1 c1 W (by omega) h1)
  have HCP := Lib.hid (fun W (hp : PltOk p) (hb : Below w.heap.size w W) => rCapacity_any p a cap W (by have := hp.pts.two; omega) (by have := hp.pts.few; omega) (hr.to hb))
  have HPR := Lib.hid (fun W (hp : PltOk p) (hv : -100000 ≤ v ∧ v ≤ 100000) (hb : Below w.heap.size w W) => rPressure_any p v a cap W hp.pts hv (hr.to hb))
  have HRV := Lib.hid (fun W (hp : PltOk p) (hv : -100000 ≤ pr ∧ pr ≤ 100000) (hb : Below w.heap.size w W) => rVolumeFor_any p pr a cap W hp hv (hr.to hb))
  have HLM := Lib.hid (fun W => rLimitErr_any pr W)
  have HBW := Lib.hid (fun W => bWth_any v 0 (capV p.pts) W)
  have HBAD := Lib.hid (fun (h : (chP p).2 ≠ 0) => pl_bad h v pr)
  have HPK := Lib.hid (fun (h : (chP p).2 = 0) => chP_ok h)
  have HOUT := Lib.hid (fun (h : (chP p).2 = 0) (hx : wthn v 0 (capV p.pts) = false) => pl_out h hx)
  have HIN := Lib.hid (fun (h : (chP p).2 = 0) (x : Int) (hx : wthn x 0 (capV p.pts) = true) => pl_in h hx)
  have HUP := Lib.hid (fun (h : (chP p).2 = 0) (hx : wthn v 0 (capV p.pts) = true) (hc : v < capV p.pts) => pl_up h hx hc)
  have HV1 := Lib.hid (fun (h : (chP p).2 = 0) (hy : wthn pr 0 1000 = false) => pl_bound h hy)
  have HV2 := Lib.hid (fun (h : (chP p).2 = 0) (hy : wthn pr 0 1000 = true) (hd : vlfD p pr = none) => pl_none h hy hd)
  have HV3 := Lib.hid (fun (d : Nat) (h : (chP p).2 = 0) (hy : wthn pr 0 1000 = true) (hd : vlfD p pr = some d) => pl_some h hy hd)
  have HCL := Lib.hid (fun (h : PltOk p) => cap_le h)
  obtain ⟨m, hm⟩ : ∃ n, p.pts.length = n := ⟨_, rfl⟩
  have HM := Lib.hid hm
  obtain ⟨c1, hc1⟩ : ∃ n, (chP p).1 = n := ⟨_, rfl⟩
  obtain ⟨c2, hc2⟩ : ∃ n, (chP p).2 = n := ⟨_, rfl⟩
  obtain ⟨ov, hov⟩ : ∃ n, opSE p v = n := ⟨_, rfl⟩
  obtain ⟨pv, hpv⟩ : ∃ n, prsR p v = n := ⟨_, rfl⟩
  obtain ⟨vf, hvf⟩ : ∃ n, vlfR p pr = n := ⟨_, rfl⟩
  obtain ⟨C, hC⟩ : ∃ n, capV p.pts = n := ⟨_, rfl⟩
  obtain ⟨bl, hbl⟩ : ∃ n, wthn pr 0 1000 = n := ⟨_, rfl⟩
  obtain ⟨vd, hvd⟩ : ∃ n, vlfD p pr = n := ⟨_, rfl⟩
  have HBLE := Lib.hid hbl
  have HP1 := Lib.hid (fun W a1 c1 h10 h1 => HPA.out W a1 c1 v h10 h1)
  rw [hm] at HFW HCPY HCK HRC HPA HP1 HVF
  rw [hc1, hc2] at HCK HRC
  rw [hc2] at HBAD HPK HOUT HIN HUP HV1 HV2 HV3
  rw [hov, hpv] at HP1 HOUT HBAD
  rw [hvf] at HVF HBAD HV1 HV2 HV3
  rw [hC] at HCP HBW HOUT HIN HUP HV3 HCL
  rw [hbl] at HLM HV1 HV2 HV3
  rw [hvd] at HRV HV2 HV3
  have HVN := Lib.hid (show opSE p v = ov ∧ prsR p v = pv from ⟨hov, hpv⟩)
  clear hc1 hc2 hov hpv hvf hC hbl hvd hr
  unfold plC at HFW HCPY HCK HRC HPA HP1 HVF HCP HPR HRV ⊢
  rw [hm] at HFW HCPY HCK HRC HPA HP1 HVF HCP HPR HRV ⊢
  clear hm
  obtain ⟨v1, v2⟩ := pv
  obtain ⟨f1, f2⟩ := vf
  dsimp only at HP1 HVF
  go_enter Tryz.func8, Tryz.ntmps8
  go_wp2_with fail
  obtain ⟨W, hW⟩ : ∃ W, w.alloc (.cells #[.slice a m cap, .int .i64 p.pump, .int .i64 p.on, .int .i64 p.off] 44) = W := ⟨_, rfl⟩
  rw [hW]
  have K3 : Hid (Blk W w.heap.size #[.slice a m cap, .int .i64 p.pump, .int .i64 p.on, .int .i64 p.off]) := by subst hW; exact Lib.hid (Blk.new _ _ _)
  have HB : Hid (Below w.heap.size w W) := by subst hW; exact Lib.hid (bAlloc (bSelf w) _)
  clear hW
  refine (HAW.out _).mono ?_
  rintro e y1 ⟨rfl, hb⟩
  replace K3 := Lib.hid (K3.out.to hb)
  replace HB := Lib.hid (bThen HB.out hb)
  obtain ⟨-, k3, -⟩ := K3.out
  go_wp2_with fail
  refine (HFW.out _).mono ?_
  rintro e y2 ⟨rfl, hb⟩
  replace K3 := Lib.hid (K3.out.to hb)
  replace HB := Lib.hid (bThen HB.out hb)
  clear hb k3 HAW HFW
  by_cases h10 : m ≤ 10
  case neg =>
    rw [decide_eq_false (show ¬ ((m : Int) ≤ 10) by omega)]
    go_wp2_with fail
    go_ret
    exact ⟨rfl, HB.out⟩
  rw [decide_eq_true (show ((m : Int) ≤ 10) by omega)]
  replace HCPY := Lib.hid (fun W => HCPY.out W h10)
  replace HCK := Lib.hid (fun W a1 c1 => HCK.out W a1 c1 h10)
  replace HRC := Lib.hid (fun W => HRC.out W h10)
  replace HPA := Lib.hid (fun W a1 c1 x => HPA.out W a1 c1 x h10)
  replace HP1 := Lib.hid (fun W a1 c1 => HP1.out W a1 c1 h10)
  replace HVF := Lib.hid (fun W a1 c1 => HVF.out W a1 c1 h10)
  obtain ⟨-, k3, -⟩ := K3.out
  go_wp2_with fail
  clear k3
  refine (HCPY.out _ HB.out).mono ?_
  rintro e y3 ⟨a1, c3, rfl, -, hr1, hb, -⟩
  replace K3 := Lib.hid (K3.out.to hb)
  replace HB := Lib.hid (bThen HB.out hb)
  unfold plC
  rw [HM.out] at hr1 ⊢
  have HR1 := Lib.hid hr1
  clear hr1 hb
  go_wp2_with fail
  refine (HCK.out _ _ _ HR1.out).mono ?_
  rintro e y4 ⟨rfl, hb⟩
  replace K3 := Lib.hid (K3.out.to hb)
  replace HB := Lib.hid (bThen HB.out hb)
  clear hb HR1 HCK
  obtain ⟨-, k3, -⟩ := K3.out
  go_wp2_with fail
  clear k3
  refine (HCPY.out _ HB.out).mono ?_
  rintro e y5 ⟨a1, c3, rfl, -, hr1, hb, -⟩
  replace K3 := Lib.hid (K3.out.to hb)
  replace HB := Lib.hid (bThen HB.out hb)
  unfold plC
  rw [HM.out] at hr1 ⊢
  have HR1 := Lib.hid hr1
  clear hr1 hb
  go_wp2_with fail
  refine (HP1.out _ _ _ HR1.out).mono ?_
  rintro e y6 ⟨rfl, hb⟩
  replace K3 := Lib.hid (K3.out.to hb)
  replace HB := Lib.hid (bThen HB.out hb)
  clear hb HR1 HP1
  obtain ⟨-, k3, -⟩ := K3.out
  have k3' : ∀ (o : Obj) (j : Nat), (y6.alloc o).cell? ⟨w.heap.size, j, none⟩ = #[Value.slice a m cap, .int .i64 p.pump, .int .i64 p.on, .int .i64 p.off][j]? := fun o j => (K3.out.alloc o).2.1 j
  go_wp2_with fail
  clear k3 k3'
  obtain ⟨W6, hW6⟩ : ∃ W, y6.alloc (.cells #[.int .i64 v1, .int .i64 v2] 28) = W := ⟨_, rfl⟩
  rw [hW6]
  have K9 : Hid (Blk W6 y6.heap.size #[.int .i64 v1, .int .i64 v2]) := by subst hW6; exact Lib.hid (Blk.new _ _ _)
  have hb : Below y6.heap.size y6 W6 := by subst hW6; exact bAlloc (bSelf _) _
  replace K3 := Lib.hid (K3.out.to hb)
  replace HB := Lib.hid (bThen HB.out hb)
  clear hb hW6
  obtain ⟨-, k3, -⟩ := K3.out
  go_wp2_with fail
  clear k3
  refine (HCPY.out _ HB.out).mono ?_
  rintro e y7 ⟨a1, c3, rfl, -, hr1, hb, -⟩
  replace K3 := Lib.hid (K3.out.to hb)
  replace K9 := Lib.hid (K9.out.to hb)
  replace HB := Lib.hid (bThen HB.out hb)
  unfold plC
  rw [HM.out] at hr1 ⊢
  have HR1 := Lib.hid hr1
  clear hr1 hb
  go_wp2_with fail
  refine (HVF.out _ _ _ HR1.out).mono ?_
  rintro e y8 ⟨rfl, hb⟩
  replace K3 := Lib.hid (K3.out.to hb)
  replace K9 := Lib.hid (K9.out.to hb)
  replace HB := Lib.hid (bThen HB.out hb)
  clear hb HR1 HVF
  obtain ⟨-, k3, -⟩ := K3.out
  go_wp2_with fail
  clear k3
  refine (HRC.out _ HB.out).mono ?_
  rintro e y9 ⟨rfl, hb⟩
  replace K3 := Lib.hid (K3.out.to hb)
  replace K9 := Lib.hid (K9.out.to hb)
  replace HB := Lib.hid (bThen HB.out hb)
  clear hb HRC
  by_cases hc : c2 = 0
  case neg =>
    obtain ⟨rfl, e2, e3⟩ := HBAD.out hc
    cases e2
    cases e3
    obtain ⟨-, k9, -⟩ := K9.out
    have hc' : (ov != 0) = true := by simpa using hc
    go_wp2_with fail
    go_ret
    exact ⟨rfl, HB.out⟩
  subst hc
  have hpk := HPK.out rfl
  replace HOUT := Lib.hid (HOUT.out rfl)
  replace HIN := Lib.hid (HIN.out rfl)
  replace HUP := Lib.hid (HUP.out rfl)
  replace HV1 := Lib.hid (HV1.out rfl)
  replace HV2 := Lib.hid (HV2.out rfl)
  replace HV3 := Lib.hid (fun d => HV3.out d rfl)
  have hC1 := HCL.out hpk
  have HPK := Lib.hid hpk
  replace HCP := Lib.hid (fun W => HCP.out W HPK.out)
  replace HPR := Lib.hid (fun W => HPR.out W HPK.out)
  replace HRV := Lib.hid (fun W => HRV.out W HPK.out)
  clear HBAD HCL hpk
  obtain ⟨-, k3, -⟩ := K3.out
  go_wp2_with fail
  clear k3
  refine (HCP.out _ HB.out).mono ?_
  rintro e ya ⟨rfl, hb⟩
  replace K3 := Lib.hid (K3.out.to hb)
  replace K9 := Lib.hid (K9.out.to hb)
  replace HB := Lib.hid (bThen HB.out hb)
  clear hb
  obtain ⟨bw, hbw⟩ : ∃ b, wthn v 0 C = b := ⟨_, rfl⟩
  rw [hbw] at HBW HOUT HUP
  have HBE := Lib.hid hbw
  clear hbw
  go_upto_if 86 with (first | (go_at_call 42; refine (HBW.out _).mono ?_; rintro e w' ⟨rfl, rfl⟩))
  go_cut [10, 15, 16, 17, 18] from 86 to 138 (fun _ _ _ _ _ wc => Hid (Below ya.heap.size ya wc))
  case first =>
    cases bw
    · obtain ⟨rfl, e2⟩ := HOUT.out rfl
      cases e2
      obtain ⟨-, k9, -⟩ := K9.out
      go_wp2_with fail
      go_meet
      case rel => exact Lib.hid (Below.refl _ _)
    · have hvb := wthn_iff.1 HBE.out
      obtain ⟨hv0, hv1⟩ := hvb
      obtain ⟨e1, e2, hsm, hden⟩ := HIN.out v HBE.out
      obtain ⟨g1, g2⟩ := HVN.out
      obtain rfl : ov = 0 := by rw [← g1, e1]
      obtain ⟨q, hq⟩ : ∃ q, rPr p.pts v = q := ⟨_, rfl⟩
      have HUQ := Lib.hid (HUP.out rfl)
      rw [hq] at HPR hsm e2 HUQ
      obtain ⟨q1, q2⟩ := q
      have e3 : (v1, v2) = (q1, q2) := by rw [← g2, e2]
      cases e3
      have HSM := Lib.hid hsm
      have HRF := Lib.hid (fun W b1 b2 x h => RatioFrac_any (v1, v2) b1 b2 x W HSM.out h)
      have HPA1 := Lib.hid (fun W a1 c1 h => HPA.out W a1 c1 (v + 1) h)
      have HINV := Lib.hid (fun h => HIN.out (v + 1) h)
      dsimp only at HRF
      obtain ⟨o1, ho1⟩ : ∃ x, opSE p (v + 1) = x := ⟨_, rfl⟩
      obtain ⟨⟨t1, t2⟩, ht⟩ : ∃ x, prsR p (v + 1) = x := ⟨_, rfl⟩
      obtain ⟨rt, hrt⟩ : ∃ x, rPr p.pts (v + 1) = x := ⟨_, rfl⟩
      rw [ho1, ht] at HPA1
      rw [ho1, ht, hrt] at HINV
      rw [hrt] at HUQ
      dsimp only at HPA1
      clear g1 g2 e1 e2 hq ho1 ht hrt hsm hden HOUT HIN HUP HPA HVN HV1 HV2 HV3
      have HY : Hid (Below ya.heap.size ya ya) := Lib.hid (Below.refl _ _)
      obtain ⟨-, k3, -⟩ := K3.out
      go_wp2_with fail
      clear k3
      refine (HPR.out _ (by omega) HB.out).mono ?_
      rintro e yb ⟨b1, b2, vv, rfl, hrr, hb, -⟩
      replace K3 := Lib.hid (K3.out.to hb)
      replace K9 := Lib.hid (K9.out.to hb)
      replace HB := Lib.hid (bThen HB.out hb)
      replace HY := Lib.hid (bThen HY.out hb)
      have HRR := Lib.hid hrr
      clear hb hrr HPR
      go_wp2_with fail
      refine (HRF.out _ _ _ _ HRR.out).mono ?_
      rintro e yc ⟨rfl, hb⟩
      replace K3 := Lib.hid (K3.out.to hb)
      replace K9 := Lib.hid (K9.out.to hb)
      replace HB := Lib.hid (bThen HB.out hb)
      replace HY := Lib.hid (bThen HY.out hb)
      clear hb HRR HRF
      have k3' : ∀ (o : Obj) (j : Nat), (yc.alloc o).cell? ⟨w.heap.size, j, none⟩ = #[Value.slice a m cap, .int .i64 p.pump, .int .i64 p.on, .int .i64 p.off][j]? := fun o j => (K3.out.alloc o).2.1 j
      have k9' : ∀ (o : Obj) (j : Nat), (yc.alloc o).cell? ⟨y6.heap.size, j, none⟩ = #[Value.int .i64 v1, .int .i64 v2][j]? := fun o j => (K9.out.alloc o).2.1 j
      go_wp2_with fail
      clear k3' k9'
      obtain ⟨W7, hW7⟩ : ∃ W, yc.alloc (.cells #[.int .i64 v1, .int .i64 v2] 28) = W := ⟨_, rfl⟩
      rw [hW7]
      have hb : Below yc.heap.size yc W7 := by subst hW7; exact bAlloc (bSelf _) _
      replace K3 := Lib.hid (K3.out.to hb)
      replace K9 := Lib.hid (K9.out.to hb)
      replace HB := Lib.hid (bThen HB.out hb)
      replace HY := Lib.hid (bThen HY.out hb)
      clear hb hW7
      refine (HCPY.out _ HB.out).mono ?_
      rintro e yd ⟨a1, c3, rfl, -, hr1, hb, -⟩
      replace K3 := Lib.hid (K3.out.to hb)
      replace K9 := Lib.hid (K9.out.to hb)
      replace HB := Lib.hid (bThen HB.out hb)
      replace HY := Lib.hid (bThen HY.out hb)
      unfold plC
      rw [HM.out] at hr1 ⊢
      have HR1 := Lib.hid hr1
      clear hr1 hb
      go_wp2_with fail
      refine (HPA1.out _ _ _ HR1.out).mono ?_
      rintro e ye ⟨rfl, hb⟩
      replace K3 := Lib.hid (K3.out.to hb)
      replace K9 := Lib.hid (K9.out.to hb)
      replace HB := Lib.hid (bThen HB.out hb)
      replace HY := Lib.hid (bThen HY.out hb)
      clear hb HR1 HPA1
      have k3' : ∀ (o : Obj) (j : Nat), (ye.alloc o).cell? ⟨w.heap.size, j, none⟩ = #[Value.slice a m cap, .int .i64 p.pump, .int .i64 p.on, .int .i64 p.off][j]? := fun o j => (K3.out.alloc o).2.1 j
      go_wp2_with fail
      clear k3'
      obtain ⟨W8, hW8⟩ : ∃ W, ye.alloc (.cells #[.int .i64 t1, .int .i64 t2] 28) = W := ⟨_, rfl⟩
      rw [hW8]
      have K17 : Hid (Blk W8 ye.heap.size #[.int .i64 t1, .int .i64 t2]) := by subst hW8; exact Lib.hid (Blk.new _ _ _)
      have hb : Below ye.heap.size ye W8 := by subst hW8; exact bAlloc (bSelf _) _
      replace K3 := Lib.hid (K3.out.to hb)
      replace K9 := Lib.hid (K9.out.to hb)
      replace HB := Lib.hid (bThen HB.out hb)
      replace HY := Lib.hid (bThen HY.out hb)
      clear hb hW8
      refine (HCP.out _ HB.out).mono ?_
      rintro e yf ⟨rfl, hb⟩
      replace K3 := Lib.hid (K3.out.to hb)
      replace K9 := Lib.hid (K9.out.to hb)
      replace HB := Lib.hid (bThen HB.out hb)
      replace HY := Lib.hid (bThen HY.out hb)
      replace K17 := Lib.hid (K17.out.to hb)
      clear hb
      by_cases hlt : v < C
      · obtain ⟨e1, e2, hsm, hden⟩ := HINV.out (wthn_iff.2 ⟨by omega, by omega⟩)
        subst e1
        obtain ⟨r1, r2⟩ := rt
        cases e2
        have HCM := Lib.hid (fun W => cmp_rPr (p := (t1, t2)) (q := (v1, v2)) W hsm HSM.out)
        rw [HUQ.out hlt] at HCM
        dsimp only at HCM hden
        clear hsm HINV HUQ
        obtain ⟨-, k9, -⟩ := K9.out
        obtain ⟨-, k17, -⟩ := K17.out
        go_wp2_with fail
        refine (HCM.out _).mono ?_
        rintro e yg ⟨rfl, hb⟩
        replace HY := Lib.hid (bThen HY.out hb)
        clear hb HCM k9 k17
        go_wp2_with fail
        go_meet
        case rel => exact HY
      · go_wp2_with fail
        go_meet
        case rel => exact HY
  obtain ⟨wo, hwo⟩ : ∃ wo, wo = wc := ⟨_, rfl⟩
  subst hwo
  have hb := hcut.out
  replace K3 := Lib.hid (K3.out.to hb)
  replace HB := Lib.hid (bThen HB.out hb)
  clear hb hcut HOUT HUP HBW HVN K9 HPR HCP HBE
  go_wp2_with fail
  refine (HLM.out _).mono ?_
  rintro e w' ⟨rfl, rfl⟩
  cases bl
  · obtain ⟨rfl, rfl⟩ : f1 = 0 ∧ f2 = 2 := by have := HV1.out (by first | trivial | rfl); cases this; exact ⟨rfl, rfl⟩
    rw [show unl false 2 = 2 from rfl]
    go_wp2_with fail
    go_ret
    exact ⟨rfl, HB.out⟩
  rw [show unl true 2 = 0 from rfl]
  have hpb := wthn_iff.1 HBLE.out
  obtain ⟨-, k3, -⟩ := K3.out
  go_wp2_with fail
  clear k3
  refine (HRV.out _ (by omega) HB.out).mono ?_
  rintro e yg ⟨rfl, hb⟩
  replace K3 := Lib.hid (K3.out.to hb)
  replace HB := Lib.hid (bThen HB.out hb)
  clear hb HRV
  cases vd with
  | none =>
    obtain ⟨rfl, rfl⟩ : f1 = 0 ∧ f2 = 12 := by have := HV2.out (by first | trivial | rfl) (by first | trivial | rfl); cases this; exact ⟨rfl, rfl⟩
    go_wp2_with fail
    go_ret
    exact ⟨rfl, HB.out⟩
  | some d =>
    obtain ⟨e1, e2, e3, HBF⟩ := HV3.out d (by first | trivial | rfl) (by first | trivial | rfl)
    cases e1
    replace HBF := Lib.hid HBF
    obtain ⟨i1, i2, i3, i4⟩ := HIN.out d e2
    have HPD := Lib.hid (fun W a1 c1 h => HPA.out W a1 c1 d h)
    have hdb := wthn_iff.1 e2
    have hdb0 := hdb.1
    have hdb1 := hdb.2
    rw [i1, i2] at HPD
    obtain ⟨q, hq⟩ : ∃ q, rPr p.pts d = q := ⟨_, rfl⟩
    rw [hq] at HPD i3 e3
    have HSM := Lib.hid i3
    have hp1 : SmF (pr, 1) := ⟨by dsimp only; omega, by dsimp only; omega, by dsimp only; omega, by dsimp only; omega⟩
    have HCM := Lib.hid (fun W => cmp_rPr (p := q) (q := (pr, 1)) W HSM.out hp1)
    obtain ⟨cq, hcq⟩ : ∃ x, cmpQ q (pr, 1) = x := ⟨_, rfl⟩
    rw [hcq] at HCM e3
    have hcq0 : ¬ cq < 0 := by simpa using e3
    obtain ⟨q1, q2⟩ := q
    dsimp only at HPD HCM
    have HCMP := Lib.hid (fun W => HCM.out W)
    clear hdb i1 i2 i3 i4 hq e2 e3 hcq HV1 HV2 HV3
    obtain ⟨-, k3, -⟩ := K3.out
    simp only [Option.getD_some, Option.isSome_some]
    go_wp2_with fail
    clear k3
    refine (HCPY.out _ HB.out).mono ?_
    rintro e yh ⟨a1, c3, rfl, -, hr1, hb, -⟩
    replace K3 := Lib.hid (K3.out.to hb)
    replace HB := Lib.hid (bThen HB.out hb)
    unfold plC
    rw [HM.out] at hr1 ⊢
    have HR1 := Lib.hid hr1
    clear hr1 hb
    go_wp2_with fail
    refine (HPD.out _ _ _ HR1.out).mono ?_
    rintro e yi ⟨rfl, hb⟩
    replace K3 := Lib.hid (K3.out.to hb)
    replace HB := Lib.hid (bThen HB.out hb)
    clear hb HR1 HPD
    go_wp2_with fail
    obtain ⟨W9, hW9⟩ : ∃ W, yi.alloc (.cells #[.int .i64 q1, .int .i64 q2] 28) = W := ⟨_, rfl⟩
    rw [hW9]
    have K21 : Hid (Blk W9 yi.heap.size #[.int .i64 q1, .int .i64 q2]) := by subst hW9; exact Lib.hid (Blk.new _ _ _)
    have hb : Below yi.heap.size yi W9 := by subst hW9; exact bAlloc (bSelf _) _
    replace K3 := Lib.hid (K3.out.to hb)
    replace HB := Lib.hid (bThen HB.out hb)
    clear hb hW9
    refine wp_region_quiet_all (fun w' => Below (World.heap W9).size (W9) w') (by kernel_rfl) (by kernel_rfl) (Below.refl _ _).drew ?_
    refine WQ.out ?_
    repeat (first | (refine WQ_no (by rfl) ?_; (simp only [Act.put, List.setIfInBounds_toArray, List.set_cons_zero, List.set_cons_succ])) | (refine WQ_yes (by rfl) ?_; apply Exists.intro; refine ⟨fun w1 hb1 => ?_, ?_⟩; (focus (((obtain ⟨-, k21, -⟩ := K21.out.to hb1); have hb1 := Lib.hid hb1; go_simp); (try (go_bits; try go_simp)); (try (rw [if_pos (by omega)]; try go_simp)); (first | done | ((first | (go_at_call 22; refine (oWhole_any pr _).mono ?_; rintro e w' ⟨rfl, hb⟩; exact ⟨rfl, bThen hb1.out hb⟩) | (go_at_call 21; refine (HCM.out _).mono ?_; rintro e w' ⟨rfl, hb⟩; exact ⟨rfl, bThen hb1.out hb⟩))) | (with_reducible rfl) | exact rfl))); (simp only [Act.put, List.setIfInBounds_toArray, List.set_cons_zero, List.set_cons_succ])))
    refine WQ_nil ?_
    intro w1 hb1
    replace K3 := Lib.hid (K3.out.to hb1)
    replace HB := Lib.hid (bThen HB.out hb1)
    clear hb1 K21 HCM HCMP
    by_cases hd0 : d = 0
    · subst hd0
      go_wp2_with fail
      go_ret
      exact ⟨rfl, HB.out⟩
    obtain ⟨j, rfl⟩ : ∃ j, d = j + 1 := ⟨d - 1, by omega⟩
    obtain ⟨e2, e3⟩ := HBF.out j rfl
    obtain ⟨i1, i2, i3, i4⟩ := HIN.out j e2
    have HPD := Lib.hid (fun W a1 c1 h => HPA.out W a1 c1 j h)
    rw [i1, i2] at HPD
    obtain ⟨q, hq⟩ : ∃ q, rPr p.pts j = q := ⟨_, rfl⟩
    rw [hq] at HPD i3 e3
    have HSM2 := Lib.hid i3
    have HCM := Lib.hid (fun W => cmp_rPr (p := q) (q := (pr, 1)) W HSM2.out hp1)
    obtain ⟨cr, hcr⟩ : ∃ x, cmpQ q (pr, 1) = x := ⟨_, rfl⟩
    rw [hcr] at HCM e3
    have hcr0 : cr < 0 := by simpa using e3
    obtain ⟨r1, r2⟩ := q
    dsimp only at HPD HCM
    have hjc : ((j + 1 : Nat) : Int) - 1 = (j : Int) := by omega
    clear i1 i2 i3 i4 hq e2 e3 hcr HBF HIN HPA
    obtain ⟨-, k3, -⟩ := K3.out
    go_wp2_with fail
    clear k3
    refine (HCPY.out _ HB.out).mono ?_
    rintro e yj ⟨a1, c3, rfl, -, hr1, hb, -⟩
    replace HB := Lib.hid (bThen HB.out hb)
    unfold plC
    rw [HM.out] at hr1 ⊢
    have HR1 := Lib.hid hr1
    clear hr1 hb
    try rw [hjc]
    go_wp2_with fail
    try rw [hjc]
    refine (HPD.out _ _ _ HR1.out).mono ?_
    rintro e yk ⟨rfl, hb⟩
    replace HB := Lib.hid (bThen HB.out hb)
    clear hb HR1 HPD
    go_wp2_with fail
    obtain ⟨WA, hWA⟩ : ∃ W, yk.alloc (.cells #[.int .i64 r1, .int .i64 r2] 28) = W := ⟨_, rfl⟩
    rw [hWA]
    have K23 : Hid (Blk WA yk.heap.size #[.int .i64 r1, .int .i64 r2]) := by subst hWA; exact Lib.hid (Blk.new _ _ _)
    have hb : Below yk.heap.size yk WA := by subst hWA; exact bAlloc (bSelf _) _
    replace HB := Lib.hid (bThen HB.out hb)
    clear hb hWA
    refine wp_region_quiet_all (fun w' => Below (World.heap WA).size (WA) w') (by kernel_rfl) (by kernel_rfl) (Below.refl _ _).drew ?_
    refine WQ.out ?_
    repeat (first | (refine WQ_no (by rfl) ?_; (simp only [Act.put, List.setIfInBounds_toArray, List.set_cons_zero, List.set_cons_succ])) | (refine WQ_yes (by rfl) ?_; apply Exists.intro; refine ⟨fun w1 hb1 => ?_, ?_⟩; (focus (((obtain ⟨-, k23, -⟩ := K23.out.to hb1); have hb1 := Lib.hid hb1; go_simp); (try (go_bits; try go_simp)); (try (rw [if_pos (by omega)]; try go_simp)); (first | done | ((first | (go_at_call 22; refine (oWhole_any pr _).mono ?_; rintro e w' ⟨rfl, hb⟩; exact ⟨rfl, bThen hb1.out hb⟩) | (go_at_call 21; refine (HCM.out _).mono ?_; rintro e w' ⟨rfl, hb⟩; exact ⟨rfl, bThen hb1.out hb⟩))) | (with_reducible rfl) | exact rfl))); (simp only [Act.put, List.setIfInBounds_toArray, List.set_cons_zero, List.set_cons_succ])))
    refine WQ_nil ?_
    intro w1 hb1
    replace HB := Lib.hid (bThen HB.out hb1)
    clear hb1
    go_wp2_with fail
    go_ret
    exact ⟨rfl, HB.out⟩

end Go.Proofs.YtjfedpblkejmkaaGreat

