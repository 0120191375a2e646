/-
  Texts of this claim, in their build order: OR7 OR8 OR3 OW5 OW1 OW2 OW3 OW0.
-/
import Derived.Test.YtbpcapcgbnbknaaGreatOne43
import Derived.Test.YtbpcapcgbnbknaaGreatOne18
import Derived.Test.YtbpcapcgbnbknaaGreatOne19
import Derived.Test.YtbpcapcgbnbknaaGreatOne23
import Derived.Test.YtbpcapcgbnbknaaGreatOne25
import Derived.Test.YtbpcapcgbnbknaaGreatOne26
import Derived.Test.YtbpcapcgbnbknaaGreatOne28
import Derived.Test.YtbpcapcgbnbknaaGreatOne29
import Derived.Test.YtbpcapcgbnbknaaGreatOne37
import Derived.Test.YtbpcapcgbnbknaaGreatOne42
import Derived.Test.YtbpcapcgbnbknaaGreatOne32
import Derived.Test.YtbpcapcgbnbknaaGreatOne0

namespace Go.Proofs.YtbpcapcgbnbknaaGreat
section
set_option maxRecDepth 100000
set_option maxHeartbeats 6400000
open Go.RowKit
attribute [local go_sem] Oper.semAt_some

theorem dg_few {n : Int} (h1 : -1000000000000 ≤ n) (h2 : n ≤ 1000000000000) : (dg n).length ≤ 20 := Nat.le_trans (dg_small 3 (Nat.lt_of_lt_of_le (show n.natAbs < 1000000000000000000 by omega) (by decide))) (by decide)
theorem RR.st4 {W : World} {a1 a2 : Option Addr} {v : Value} {q : Int × Int} {b : Nat} (h : RR W a1 a2 v q) (hl : Loc (fun c => c ≠ b) a1 q.1 ∧ Loc (fun c => c ≠ b) a2 q.2) (x0 x1 x2 x3 : Value) : RR (Go.Proofs.YtbpcapcgbnbknaaGreat.st4 W b x0 x1 x2 x3) a1 a2 v q :=
  (((h.set1 hl.1 hl.2 x0).set1 hl.1 hl.2 x1).set1 hl.1 hl.2 x2).set1 hl.1 hl.2 x3
theorem RR.locNe {W : World} {a1 a2 : Option Addr} {v : Value} {q : Int × Int} (h : RR W a1 a2 v q) : Loc (fun c => c ≠ W.heap.size) a1 q.1 ∧ Loc (fun c => c ≠ W.heap.size) a2 q.2 := by
  obtain ⟨s1, n1, c1, s2, n2, c2, rfl, h1, h2⟩ := h
  exact ⟨h1.loc.imp (fun b hb => by omega), h2.loc.imp (fun b hb => by omega)⟩

theorem rLine_any (x y u v at' : Int) (w : World) (hx : -100000 ≤ x ∧ x ≤ 100000) (hy : -100000 ≤ y ∧ y ≤ 100000) (hu : u ≤ 100000) (hv : -100000 ≤ v ∧ v ≤ 100000) (ha : -100000 ≤ at' ∧ at' ≤ 100000) (hxu : x < u) :
    Calls Tryz.prog 76 #[.int .i64 x, .int .i64 y, .int .i64 u, .int .i64 v, .int .i64 at'] w fun e w1 => RPost [] (rAdd (y, 1) (fr ((v - y) * (at' - x)) (u - x))) w e w1 := by
  obtain ⟨x1, x2⟩ := hx
  obtain ⟨y1, y2⟩ := hy
  obtain ⟨v1, v2⟩ := hv
  obtain ⟨a1, a2⟩ := ha
  have pm := mul_bd (a := v - y) (b := at' - x) (A := 200000) (B := 200000) (by omega) (by omega) (by omega) (by omega)
  obtain ⟨pm1, pm2⟩ := pm
  have HI := zH (fun W => RatioInt_any y W (by omega) (by omega))
  have HF := zH (fun W => RatioOf_any ((v - y) * (at' - x)) (u - x) W (by omega) (by omega) (by omega) (by omega))
  have HA := zH (fun W c1 c2 d1 d2 z1 z2 h1 h2 => RatioAdd_any (y, 1) (fr ((v - y) * (at' - x)) (u - x)) c1 c2 d1 d2 z1 z2 W h1 h2 (dg_few (by dsimp only; omega) (by dsimp only; omega)) (dg_few (by dsimp only; omega) (by dsimp only; omega)) (dg_fr1 (dg_few (by omega) (by omega))) (dg_fr2 (dg_few (by omega) (by omega))) (by dsimp only; omega) (fr_pos (by omega)))
  obtain ⟨q, hq⟩ : ∃ q, rAdd (y, 1) (fr ((v - y) * (at' - x)) (u - x)) = q := ⟨_, rfl⟩
  rw [hq] at HA ⊢
  obtain ⟨f, hf⟩ : ∃ f, fr ((v - y) * (at' - x)) (u - x) = f := ⟨_, rfl⟩
  rw [hf] at HA HF
  clear hq hf
  go_enter Tryz.func76, Tryz.ntmps76
  go_wp2_with fail
  obtain ⟨W, hW⟩ : ∃ W, w.alloc (.cells #[.int .i64 0, .slice none 0 0, .int .i64 0, .slice none 0 0] 65) = W := ⟨_, rfl⟩
  rw [hW]
  have K : Hid (Blk W w.heap.size #[.int .i64 0, .slice none 0 0, .int .i64 0, .slice none 0 0]) := by subst hW; exact zH (Blk.new _ _ _)
  have HB : Hid (Below w.heap.size w W) := by subst hW; exact zH (bAlloc (bSelf w) _)
  clear hW
  refine (HI.out _).mono ?_
  rintro e w1 ⟨c1, c2, z1, rfl, hr1, hb, -⟩
  have HR1 := zH hr1
  replace K := zH (K.out.to hb)
  replace HB := zH (bThen HB.out hb)
  obtain ⟨s1, n1, k1, t1, m1, l1, rfl, -, -⟩ := hr1.ex
  clear hb hr1
  go_wp2_with fail
  refine (HF.out _).mono ?_
  rintro e w2 ⟨d1, d2, z2, rfl, hr2, hb, -⟩
  have HR2 := zH hr2
  replace HR1 := zH (HR1.out.to hb)
  replace K := zH (K.out.to hb)
  replace HB := zH (bThen HB.out hb)
  obtain ⟨s2, n2, k2, t2, m2, l2, rfl, -, -⟩ := hr2.ex
  clear hb hr2
  go_wp2_with fail
  refine (HA.out _ _ _ _ _ _ _ HR1.out HR2.out).mono ?_
  rintro e w3 ⟨g1, g2, z3, rfl, hr3, hb, hloc⟩
  have HR3 := zH hr3
  have HL := zH (fun (P : Nat → Prop) (h : ∀ b, w2.heap.size ≤ b → P b) => hloc P h (fun i hi => by cases hi))
  have HLB := zH (HL.out (fun c => c ≠ w.heap.size) (fun b hb => by have := K.out.1; omega))
  have HSZ : Hid (w.heap.size ≤ w2.heap.size) := zH HB.out.size
  replace K := zH (K.out.to hb)
  replace HB := zH (bThen HB.out hb)
  obtain ⟨s3, n3, k3, t3, m3, l3, rfl, -, -⟩ := hr3.ex
  clear hb hr3 hloc HR1 HR2
  obtain ⟨-, k, f'⟩ := K.out
  go_wp2_with fail
  clear k f'
  have F := (K.out.st4 (.int .i64 s3) (.slice g1 n3 k3) (.int .i64 t3) (.slice g2 m3 l3)).2.1
  have F0 := F 0; have F1 := F 1; have F2 := F 2; have F3 := F 3
  unfold st4 at F0 F1 F2 F3
  clear F
  have HP : Hid (RPost [] q w (.returned (.agg #[.int .i64 s3, .slice g1 n3 k3, .int .i64 t3, .slice g2 m3 l3])) (st4 w3 w.heap.size (.int .i64 s3) (.slice g1 n3 k3) (.int .i64 t3) (.slice g2 m3 l3))) := zH
    ⟨g1, g2, _, rfl, HR3.out.st4 HLB.out _ _ _ _, HB.out.trans (below_st4 w3 (Nat.le_refl _) _ _ _ _), fun P hf _ => HL.out P (fun b hb => hf b (by have := HSZ.out; omega))⟩
  refine bodyPost_ret (v := .agg #[.int .i64 s3, .slice g1 n3 k3, .int .i64 t3, .slice g2 m3 l3]) ?_ rfl HP.out
  simp [results, Tryz.results76, go_sem, F0, F1, F2, F3]

theorem rPressure_any (p : Plt) (v : Int) (a : Option Addr) (cap : Nat) (w : World) (hp : PtsOk p.pts) (hv : -100000 ≤ v ∧ v ≤ 100000) (hr : Reads w a (p.pts.length * 2) (fracs p.pts)) :
    Calls Tryz.prog 25 #[.agg (plC p a cap), .int .i64 v] w fun e w1 => RPost [] (rPr p.pts v) w e w1 := by
  have HR := zH hr
  obtain ⟨l, pump, on, off⟩ := p
  unfold plC
  dsimp only at HR hp ⊢
  have HPR : Hid (rPr l v = if rPrI l v < l.length then rSeg (fg l (rPrI l v - 1)) (fg l (rPrI l v)) v else (0, 1)) := zH rfl
  have HPI : Hid (rPrI l v = ixF (fun j => decide (v ≤ (fg l j).1)) 1 (l.length - 1)) := zH rfl
  have HLI := zH (fun W (k : Nat) (h1 : 1 ≤ k) (h2 : k < l.length) => rLine_any (fg l (k - 1)).1 (fg l (k - 1)).2 (fg l k).1 (fg l k).2 v W (by have := hp.vol (k - 1) (by omega); omega) (by have := hp.prs (k - 1) (by omega); omega) (by have := hp.vol k h2; omega) (by have := hp.prs k h2; omega) hv (by have := (hp.up (k - 1) (by omega)).1; rwa [Nat.sub_add_cancel h1] at this))
  have HRI := zH (fun W => RatioInt_any 0 W (by decide) (by decide))
  obtain ⟨q, hq⟩ : ∃ q, rPr l v = q := ⟨_, rfl⟩
  obtain ⟨pi, hpi⟩ : ∃ i, rPrI l v = i := ⟨_, rfl⟩
  rw [hq] at HPR ⊢
  rw [hpi] at HPR HPI
  have h2 := hp.two
  have h8 := hp.few
  obtain ⟨n, hn⟩ : ∃ n, l.length = n := ⟨_, rfl⟩
  have HN := zH hn
  rw [hn] at HR HPR HPI HLI h2 h8 ⊢
  clear hr hq hpi hn hp
  go_enter Tryz.func25, Tryz.ntmps25
  go_wp2_with fail
  obtain ⟨W, hW⟩ : ∃ W, (w.alloc (.cells #[.slice a n cap, .int .i64 pump, .int .i64 on, .int .i64 off] 51)).alloc (.cells #[.int .i64 0, .slice none 0 0, .int .i64 0, .slice none 0 0] 65) = W := ⟨_, rfl⟩
  rw [hW]
  have K : Hid (Blk W (w.heap.size + 1) #[.int .i64 0, .slice none 0 0, .int .i64 0, .slice none 0 0]) := by subst hW; exact zH (Blk.newAt _ _ _ (by simp))
  have HB : Hid (Below w.heap.size w W) := by subst hW; exact zH (bAlloc (bAlloc (bSelf w) _) _)
  replace HR := zH (HR.out.to HB.out)
  clear hW
  go_loopw [6] (fun s6 wr => ∃ k : Nat, 1 ≤ k ∧ k ≤ n ∧ s6 = .int .i64 k ∧ Hid (pi = ixF (fun j => decide (v ≤ (fg l j).1)) k (n - k)) ∧ W = wr) (fun s6 _ => n - (intOf s6).toNat)
  case atStart => exact ⟨1, Nat.le_refl _, by omega, rfl, HPI, rfl⟩
  case round =>
    obtain ⟨k, hk1, hk, rfl, hee, rfl⟩ := hrel
    by_cases hlt : k < n
    · obtain ⟨b, off', rfl, hb, hc⟩ := HR.out.at (k := k * 2) (by omega)
      have HBL : Hid (b < W.heap.size) := zH hb
      obtain ⟨⟨x1, y1⟩, hx1⟩ : ∃ x, fg l k = x := ⟨_, rfl⟩
      obtain ⟨⟨x0, y0⟩, hx0⟩ : ∃ x, fg l (k - 1) = x := ⟨_, rfl⟩
      obtain ⟨j, hj⟩ : ∃ j, k - 1 = j := ⟨_, rfl⟩
      have C0 : Hid (W.cell? ⟨b, off' + k * 2, none⟩ = some (.int .i64 x1)) := zH (by have := hc (k * 2) (by omega); rw [fracs0, hx1] at this; exact this)
      have C1 : Hid (W.cell? ⟨b, off' + k * 2 + 1, none⟩ = some (.int .i64 y1)) := zH (by have := hc (k * 2 + 1) (by omega); rw [fracs1, hx1] at this; exact this)
      have D0 : Hid (W.cell? ⟨b, off' + j * 2, none⟩ = some (.int .i64 x0)) := zH (by have := hc (j * 2) (by omega); rw [fracs0, ← hj, hx0, hj] at this; exact this)
      have D1 : Hid (W.cell? ⟨b, off' + j * 2 + 1, none⟩ = some (.int .i64 y0)) := zH (by have := hc (j * 2 + 1) (by omega); rw [fracs1, ← hj, hx0, hj] at this; exact this)
      have HLK := zH (fun W' => HLI.out W' k hk1 hlt)
      rw [hx1, hx0] at HLK
      dsimp only at HLK
      have hkn : (k : Int) < (n : Int) := by omega
      have hjn : (j : Int) < (n : Int) := by omega
      have hkj : (k : Int) - 1 = (j : Int) := by omega
      have c0 := C0.out
      cases g : decide (v ≤ x1) with
      | false =>
        have HS := zH (ixF_step (p := fun j => decide (v ≤ (fg l j).1)) hlt (by rw [hx1]; exact g))
        clear hx1 hx0 hj hc hb hkj hjn
        go_wp2_with fail
        go_roundw
        case rel => exact ⟨k + 1, by omega, by omega, by go_num, zH (hee.out.trans HS.out), trivial⟩
        case measure => simp [intOf]; omega
      | true =>
        have HS := zH (ixF_stop (p := fun j => decide (v ≤ (fg l j).1)) hlt (by rw [hx1]; exact g))
        have HQ : Hid (q = rAdd (y0, 1) (fr ((y1 - y0) * (v - x0)) (x1 - x0))) := zH (by
          rw [HPR.out, hee.out, HS.out, if_pos hlt, hx1, hx0]; rfl)
        rw [← HQ.out] at HLK
        clear hx1 hx0 hj hc hb
        go_upto_region 6 with (fail)
        clear c0
        refine wp_region_quiet_tail 23 (fun w' => Below (World.heap W).size (W) w') (by kernel_rfl) (by kernel_rfl) (Below.refl _ _).drew ?_
        simp only [List.take_succ_cons, List.take_zero, List.drop_succ_cons, List.drop_zero]
        refine WQ.out ?_
        repeat (first | (refine WQ_no (by rfl) ?_; (simp only [Act.put, zzT, zzO, zzS])) | (refine WQ_yes (by rfl) ?_; apply Exists.intro; refine ⟨fun w1 hb1 => ?_, ?_⟩; (focus (((have c0 := (hb1.cell (p := ⟨b, off' + k * 2, none⟩) HBL.out).trans C0.out; have c1 := (hb1.cell (p := ⟨b, off' + k * 2 + 1, none⟩) HBL.out).trans C1.out; have d0 := (hb1.cell (p := ⟨b, off' + j * 2, none⟩) HBL.out).trans D0.out; have d1 := (hb1.cell (p := ⟨b, off' + j * 2 + 1, none⟩) HBL.out).trans D1.out); have hb1 := zH hb1; go_simp); (try (go_bits; try go_simp)); (try (rw [if_pos (by omega)]; try go_simp)); (first | done | (with_reducible rfl) | exact rfl))); (simp only [Act.put, zzT, zzO, zzS])))
        refine WQ_nil ?_
        intro w1 hb1
        go_wp2_with fail
        replace K := zH (K.out.to hb1)
        replace HB := zH (bThen HB.out hb1)
        clear HRI HR C0 C1 D0 D1 HQ HS
        refine (HLK.out _).mono ?_
        rintro e w3 ⟨g1, g2, z3, rfl, hr3, hb, hloc⟩
        have HR3 := zH hr3
        have HL := zH (fun (P : Nat → Prop) (h : ∀ b, w1.heap.size ≤ b → P b) => hloc P h (fun i hi => by cases hi))
        have HLB := zH (HL.out (fun c => c ≠ w.heap.size + 1) (fun b hb => by have := K.out.1; omega))
        have HSZ : Hid (w.heap.size ≤ w1.heap.size) := zH HB.out.size
        replace K := zH (K.out.to hb)
        replace HB := zH (bThen HB.out hb)
        obtain ⟨s3, n3, k3, t3, m3, l3, rfl, -, -⟩ := hr3.ex
        clear hb hr3 hloc
        obtain ⟨-, kk, f'⟩ := K.out
        go_wp2_with fail
        clear kk f'
        have F := (K.out.st4 (.int .i64 s3) (.slice g1 n3 k3) (.int .i64 t3) (.slice g2 m3 l3)).2.1
        have F0 := F 0; have F1 := F 1; have F2 := F 2; have F3 := F 3
        unfold st4 at F0 F1 F2 F3
        clear F
        have HP : Hid (RPost [] q w (.returned (.agg #[.int .i64 s3, .slice g1 n3 k3, .int .i64 t3, .slice g2 m3 l3])) (st4 w3 (w.heap.size + 1) (.int .i64 s3) (.slice g1 n3 k3) (.int .i64 t3) (.slice g2 m3 l3))) := zH
          ⟨g1, g2, _, rfl, HR3.out.st4 HLB.out _ _ _ _, HB.out.trans (below_st4 w3 (Nat.le_succ _) _ _ _ _), fun P hf _ => HL.out P (fun b hb => hf b (by have := HSZ.out; omega))⟩
        refine bodyPost_ret (v := .agg #[.int .i64 s3, .slice g1 n3 k3, .int .i64 t3, .slice g2 m3 l3]) ?_ rfl HP.out
        simp [results, Tryz.results25, go_sem, F0, F1, F2, F3]
    · obtain rfl : k = n := by omega
      have HQ : Hid (q = (0, 1)) := zH (by
        have hpi : pi = k := by
          rw [hee.out, Nat.sub_self]; rfl
        rw [HPR.out, hpi, if_neg (Nat.lt_irrefl _)])
      rw [← HQ.out] at HRI
      clear HR HLI HPR HPI hee
      go_wp2_with fail
      refine (HRI.out _).mono ?_
      rintro e w3 ⟨g1, g2, z3, rfl, hr3, hb, hloc⟩
      have HR3 := zH hr3
      have HL := zH (fun (P : Nat → Prop) (h : ∀ b, W.heap.size ≤ b → P b) => hloc P h (fun i hi => by cases hi))
      have HLB := zH (HL.out (fun c => c ≠ w.heap.size + 1) (fun b hb => by have := K.out.1; omega))
      have HSZ : Hid (w.heap.size ≤ W.heap.size) := zH HB.out.size
      replace K := zH (K.out.to hb)
      replace HB := zH (bThen HB.out hb)
      obtain ⟨s3, n3, k3, t3, m3, l3, rfl, -, -⟩ := hr3.ex
      clear hb hr3 hloc
      obtain ⟨-, kk, f'⟩ := K.out
      go_wp2_with fail
      clear kk f'
      have F := (K.out.st4 (.int .i64 s3) (.slice g1 n3 k3) (.int .i64 t3) (.slice g2 m3 l3)).2.1
      have F0 := F 0; have F1 := F 1; have F2 := F 2; have F3 := F 3
      unfold st4 at F0 F1 F2 F3
      clear F
      have HP : Hid (RPost [] q w (.returned (.agg #[.int .i64 s3, .slice g1 n3 k3, .int .i64 t3, .slice g2 m3 l3])) (st4 w3 (w.heap.size + 1) (.int .i64 s3) (.slice g1 n3 k3) (.int .i64 t3) (.slice g2 m3 l3))) := zH
        ⟨g1, g2, _, rfl, HR3.out.st4 HLB.out _ _ _ _, HB.out.trans (below_st4 w3 (Nat.le_succ _) _ _ _ _), fun P hf _ => HL.out P (fun b hb => hf b (by have := HSZ.out; omega))⟩
      refine bodyPost_ret (v := .agg #[.int .i64 s3, .slice g1 n3 k3, .int .i64 t3, .slice g2 m3 l3]) ?_ rfl HP.out
      simp [results, Tryz.results25, go_sem, F0, F1, F2, F3]
end
section
open Go.RowKit
attribute [local go_sem] Oper.semAt_some

theorem dg_frL {q : Int × Int} (h : QOk q) : (dg (fr q.1 q.2).1).length ≤ 50 ∧ (dg (fr q.1 q.2).2).length ≤ 50 := ⟨Nat.le_trans (dg_fr1 (dg_few (by have := h.n0; omega) (by have := h.n1; omega))) (by decide), Nat.le_trans (dg_fr2 (dg_few (by have := h.d0; omega) (by have := h.d1; omega))) (by decide)⟩
/-- A fraction in a box. -/
def RBlk (W : World) (b : Nat) (q : Int × Int) : Prop :=
  ∃ a1 a2 s1 n1 c1 s2 n2 c2, Blk W b #[.int .i64 s1, .slice a1 n1 c1, .int .i64 s2, .slice a2 n2 c2] ∧ RR W a1 a2 (.agg #[.int .i64 s1, .slice a1 n1 c1, .int .i64 s2, .slice a2 n2 c2]) q
theorem RBlk.to {W W' : World} {b : Nat} {q : Int × Int} (h : RBlk W b q) (hb : Below W.heap.size W W') : RBlk W' b q := by
  obtain ⟨a1, a2, s1, n1, c1, s2, n2, c2, h1, h2⟩ := h
  exact ⟨a1, a2, s1, n1, c1, s2, n2, c2, h1.to hb, h2.to hb⟩
end
section
open Go.RowKit
attribute [local go_sem] Oper.semAt_some

theorem Dig.drop {l : List Int} (h : Dig l) (n : Nat) : Dig (l.drop n) := fun d hd => h d (List.mem_of_mem_drop hd)
set_option maxHeartbeats 800000 in
set_option maxRecDepth 100000 in
theorem bCmp_any (p q : Int × Int) (w : World) (h1 : -1000000000 ≤ p.1 ∧ p.1 ≤ 1000000000) (h2 : -1000000000 ≤ p.2 ∧ p.2 ≤ 1000000000) (h3 : -1000000000 ≤ q.1 ∧ q.1 ≤ 1000000000) (h4 : -1000000000 ≤ q.2 ∧ q.2 ≤ 1000000000) :
    Calls Tryz.prog 84 #[.agg #[.int .i64 p.1, .int .i64 p.2], .agg #[.int .i64 q.1, .int .i64 q.2]] w fun e w' => e = .returned (.int .i64 (cmpQ p q)) ∧ Below w.heap.size w w' := by
  obtain ⟨a, b⟩ := p
  obtain ⟨c, d⟩ := q
  dsimp only at h1 h2 h3 h4 ⊢
  obtain ⟨m1, m2⟩ := mul_bd (A := 1000000000) (B := 1000000000) h1.1 h1.2 h4.1 h4.2
  obtain ⟨m3, m4⟩ := mul_bd (A := 1000000000) (B := 1000000000) h3.1 h3.2 h2.1 h2.2
  have HC : Hid (cmpQ (a, b) (c, d) = (a * d - c * b).sign) := zH rfl
  obtain ⟨x, hx⟩ : ∃ x, a * d = x := ⟨_, rfl⟩
  obtain ⟨y, hy⟩ : ∃ y, c * b = y := ⟨_, rfl⟩
  obtain ⟨r, hr⟩ : ∃ r, cmpQ (a, b) (c, d) = r := ⟨_, rfl⟩
  rw [hr, hx, hy] at HC
  rw [hr]
  have HX := zH hx
  have HY := zH hy
  have hc : x < y ∨ (¬ x < y ∧ y < x) ∨ (¬ x < y ∧ ¬ y < x) := by omega
  clear hr h1 h2 h3 h4
  rcases hc with g | ⟨g, g'⟩ | ⟨g, g'⟩
  all_goals
    have HG := zH g
    try have HG' := zH g'
    go_enter Tryz.func84, Tryz.ntmps84
    go_wp2_with fail
    obtain ⟨W, hW⟩ : ∃ W, (w.alloc (.cells #[.int .i64 a, .int .i64 b] 77)).alloc (.cells #[.int .i64 c, .int .i64 d] 77) = W := ⟨_, rfl⟩
    rw [hW]
    have K1 : Hid (Blk W w.heap.size #[.int .i64 a, .int .i64 b]) := by subst hW; exact zH ((Blk.new _ _ _).alloc _)
    have K2 : Hid (Blk W (w.heap.size + 1) #[.int .i64 c, .int .i64 d]) := by subst hW; exact zH (Blk.newAt _ _ _ (by simp))
    have HB : Hid (Below w.heap.size w W) := by subst hW; exact zH (bAlloc (bAlloc (bSelf w) _) _)
    clear hW
    refine wp_region_quiet_all (fun w' => Below (World.heap W).size (W) w') (by kernel_rfl) (by kernel_rfl) (Below.refl _ _).drew ?_
    refine WQ.out ?_
    repeat (first | (refine WQ_no (by rfl) ?_; (simp only [Act.put, zzT, zzO, zzS])) | (refine WQ_yes (by rfl) ?_; apply Exists.intro; refine ⟨fun w1 hb1 => ?_, ?_⟩; (focus (((obtain ⟨-, k1, -⟩ := K1.out.to hb1; obtain ⟨-, k2, -⟩ := K2.out.to hb1; have hx := HX.out; have hy := HY.out); have hb1 := zH hb1; go_simp); (try (go_bits; try go_simp)); (try (rw [if_pos (by omega)]; try go_simp)); (first | done | (with_reducible rfl) | exact rfl))); (simp only [Act.put, zzT, zzO, zzS])))
    refine WQ_nil ?_
    intro w1 hb1
    go_wp2_with fail
    go_ret
    exact ⟨ret_int (by
      rw [HC.out]
      have := HG.out
      first | (rw [Int.sign_eq_neg_one_of_neg (by omega)]) | (have := HG'.out; rw [Int.sign_eq_one_of_pos (by omega)]) | (have := HG'.out; rw [show x - y = 0 by omega]; rfl)), bThen HB.out hb1⟩
end
section
open Go.RowKit

theorem pl_err {p : Plt} (h : (chP p).2 = 0) (x : Int) : opSE p x = unl (wthn x 0 (capV p.pts)) 2 := by
  unfold opSE; rw [if_pos h]; rfl
theorem smF_frQ {q : Int × Int} (h : QOk q) : SmF (fr q.1 q.2) := by
  have h1 := fr_pos (n := q.1) (show 0 < q.2 from h.d0)
  have h2 := fr_bd1 (n := q.1) (m := q.2) (B := 1000000000) (by have := h.n0; have := h.n1; omega)
  have h3 := fr_bd2 (n := q.1) (m := q.2) (B := 1000000000) (by have := h.d0; have := h.d1; omega)
  exact ⟨by omega, by omega, by omega, by omega⟩
theorem pl_in {p : Plt} (h : (chP p).2 = 0) {x : Int} (hx : wthn x 0 (capV p.pts) = true) : opSE p x = 0 ∧ prsR p x = rPr p.pts x ∧ SmF (rPr p.pts x) ∧ 0 < (rPr p.pts x).2 := by
  have e1 := pl_err h x
  rw [hx] at e1
  have hp := (chP_ok h).pts
  have hw := wthn_iff.1 hx
  have e2 := rPr_eq hp hw.1 hw.2
  have hq := QOk.of_pts hp hw.1 hw.2
  refine ⟨e1, by unfold prsR; rw [e1, e2]; rfl, by rw [e2]; exact smF_frQ hq, by rw [e2]; exact fr_pos (show 0 < (prQ p.pts x).2 from hq.d0)⟩
end
section

theorem run_none {p : Plt} : ∀ {ds : List Int} {s : OSt}, (∀ k, k < ds.length → wthn (gi ds k) 0 50 = true) → goQ p s ds = none → (runA p s ds).2 = 22
  | [], s, _, h => by simp [goQ] at h
  | d :: ds, s, hf, h => by
    have h0 : wthn d 0 50 = true := hf 0 (by simp)
    have h' : (nxtA p s d).bind (fun u => goQ p u ds) = none := h
    unfold runA
    rw [if_neg (by rw [h0]; simp)]
    cases e : nxtA p s d with
    | none => rfl
    | some t =>
      rw [e] at h'
      exact run_none (fun k hk => hf (k + 1) (by simp only [List.length_cons]; omega)) h'
theorem run_some {p : Plt} : ∀ {ds : List Int} {s t : OSt}, (∀ k, k < ds.length → wthn (gi ds k) 0 50 = true) → goQ p s ds = some t → (runA p s ds).2 = 0 ∧ (runA p s ds).1.length = ds.length ∧ sg (s :: (runA p s ds).1) ds.length = t
  | [], s, t, _, h => by
    have : s = t := by simpa [goQ] using h
    subst this
    exact ⟨rfl, rfl, rfl⟩
  | d :: ds, s, t, hf, h => by
    have h0 : wthn d 0 50 = true := hf 0 (by simp)
    have h' : (nxtA p s d).bind (fun u => goQ p u ds) = some t := h
    unfold runA
    rw [if_neg (by rw [h0]; simp)]
    cases e : nxtA p s d with
    | none => rw [e] at h'; cases h'
    | some u =>
      rw [e] at h'
      obtain ⟨r1, r2, r3⟩ := run_some (fun k hk => hf (k + 1) (by simp only [List.length_cons]; omega)) h'
      exact ⟨r1, by simp only [List.length_cons]; omega, r3⟩
end
section

theorem mem_rngL {r : Int × Int} {n : Int} (h : n ∈ rngL r) : r.1 ≤ n ∧ n ≤ r.2 := by
  unfold rngL at h
  obtain ⟨k, hk, rfl⟩ := List.mem_map.1 h
  have := List.mem_range.1 hk
  omega
theorem fgs_take {l : List (Int × Int)} {n k : Nat} (h : k < n) : fg (l.take n) k = fg l k := by
  unfold fg
  rw [List.getD_eq_getElem?_getD, List.getD_eq_getElem?_getD, List.getElem?_take, if_pos h]
theorem goQ_ok {p : Plt} : ∀ {ds : List Int} {s t : OSt}, StOk p s → goQ p s ds = some t → StOk p t
  | [], s, t, hs, h => by
    have : s = t := by simpa [goQ] using h
    subst this
    exact hs
  | d :: ds, s, t, hs, h => by
    have h' : (nxtA p s d).bind (fun u => goQ p u ds) = some t := h
    cases e : nxtA p s d with
    | none => rw [e] at h'; cases h'
    | some u => rw [e] at h'; exact goQ_ok (nxtA_ok e) h'
end
section

theorem gis_take {l : List Int} {n k : Nat} (h : k < n) : gi (l.take n) k = gi l k := by
  unfold gi
  rw [List.getD_eq_getElem?_getD, List.getD_eq_getElem?_getD, List.getElem?_take, if_pos h]
theorem opLE_parts {p : Plt} {s : OSt} {c : List (Int × Int)} {lim : Int} (h : opLE p s.1 c lim = 0) : opSE p s.1 = 0 ∧ (chCl c).2 = 0 ∧ unl (wthn lim 0 1000) 2 = 0 := by
  obtain ⟨h1, h2⟩ := firstE2.1 (show firstE [_, _] = 0 from h)
  obtain ⟨h3, h4⟩ := firstE2.1 (show firstE [_, _] = 0 from h1)
  exact ⟨h3, h4, h2⟩
theorem rnR_ok {p : Plt} {s : OSt} {ds : List Int} (h : opSE p s.1 = 0) (hl : ds.length ≤ 20) : rnR p s ds = (runA p s ds).2 :=
  runR_of (firstE2.2 ⟨h, by rw [unlZ (by decide), decide_eq_true_eq]; omega⟩)
end
section
open Go.RowKit

theorem nodup_leS : ∀ {l u : List OSt}, l.Nodup → (∀ x ∈ l, x ∈ u) → l.length ≤ u.length
  | [], u, _, _ => by simp
  | a :: l, u, hn, hs => by
    have hn' := List.nodup_cons.1 hn
    obtain ⟨p, q, e⟩ := List.append_of_mem (hs a (List.mem_cons_self ..))
    have h1 := nodup_leS (l := l) (u := p ++ q) hn'.2 (fun x hx => by
      have h2 := hs x (List.mem_cons_of_mem _ hx)
      rw [e, List.mem_append, List.mem_cons] at h2
      rw [List.mem_append]
      rcases h2 with h | h | h
      · exact .inl h
      · subst h; exact absurd hx hn'.1
      · exact .inr h)
    rw [e]
    simp only [List.length_cons, List.length_append] at h1 ⊢
    omega
theorem srt_nodup {l : List OSt} (h : SrtS l) : l.Nodup := List.Pairwise.imp (fun {a b} hab e => by subst e; rw [ltS_irr] at hab; cases hab) h
end
end Go.Proofs.YtbpcapcgbnbknaaGreat
