/-
  Texts of this claim, in their build order: OA5.
-/
import Derived.Test.YtbpcapcgbnbknaaGreatOne21
import Derived.Test.YtbpcapcgbnbknaaGreatOne6
import Derived.Test.YtbpcapcgbnbknaaGreatOne0

namespace Go.Proofs.YtbpcapcgbnbknaaGreat
section
set_option maxRecDepth 100000
set_option maxHeartbeats 3200000
open Go.RowKit
attribute [local go_sem] Oper.semAt_some

/-- A plant with its line, in memory. -/
abbrev plL (p : Plt) (a : Option Addr) (cap : Nat) (al : Option Addr) (cl : Nat) : Array Value := #[.slice a p.pts.length cap, .int .i64 p.pump, .int .i64 p.on, .int .i64 p.off, .slice al p.pts.length cl]

theorem capacity_any (p : Plt) (a al : Option Addr) (cap cl : Nat) (w : World) (h0 : 0 < p.pts.length) (hlen : p.pts.length ≤ 100000) (hr : Reads w al (p.pts.length * 2) (fracs p.pts)) :
    Calls Tryz.prog 124 #[.agg (plL p a cap al cl)] w fun e w' => e = .returned (.int .i64 (capV p.pts)) ∧ Below w.heap.size w w' := by
  unfold capV
  obtain ⟨v, hv⟩ : ∃ v, (fg p.pts (p.pts.length - 1)).1 = v := ⟨_, rfl⟩
  rw [hv]
  obtain ⟨b, off, rfl, hb, hc⟩ := hr.at (k := 0) (by omega)
  obtain ⟨n, hn⟩ : ∃ n, p.pts.length = n + 1 := ⟨p.pts.length - 1, by omega⟩
  have C0 : w.cell? ⟨b, off + n * 2, none⟩ = some (.int .i64 v) := by have := hc (n * 2) (by omega); rw [fracs0, ← hv, hn] at *; exact this
  obtain ⟨pts, pump, on, off'⟩ := p
  dsimp only [plL] at *
  rw [hn] at hlen ⊢
  have hn1 : n < n + 1 := by omega
  clear hn hv hc hr
  go_enter Tryz.func124, Tryz.ntmps124
  go_wp2_with fail
  go_ret
  exact ⟨rfl, bAlloc (bSelf w) _⟩

theorem pressure_any (p : Plt) (x : Int) (a al : Option Addr) (cap cl : Nat) (w : World) (ho : OnOk p.pts x) (hr : Reads w al (p.pts.length * 2) (fracs p.pts)) :
    Calls Tryz.prog 93 #[.agg (plL p a cap al cl), .int .i64 x] w fun e w' => e = .returned (.agg #[.int .i64 (prQ p.pts x).1, .int .i64 (prQ p.pts x).2]) ∧ Below w.heap.size w w' := by
  have HO := zH (fun W (hb : Below w.heap.size w W) => on_any p.pts x al cl W ho (hr.to hb))
  obtain ⟨pts, pump, on, off'⟩ := p
  dsimp only [plL] at *
  obtain ⟨n, hn⟩ : ∃ n, pts.length = n := ⟨_, rfl⟩
  obtain ⟨q1, hq1⟩ : ∃ q, (prQ pts x).1 = q := ⟨_, rfl⟩
  obtain ⟨q2, hq2⟩ : ∃ q, (prQ pts x).2 = q := ⟨_, rfl⟩
  rw [hn, hq1, hq2] at HO
  rw [hn, hq1, hq2]
  clear hn hq1 hq2 ho hr
  go_enter Tryz.func93, Tryz.ntmps93
  go_wp2_with fail
  refine (HO.out _ (bAlloc (bAlloc (bSelf w) _) _)).mono ?_
  rintro e w1 ⟨rfl, hb⟩
  have K1 : Hid (Blk w1 (w.heap.size + 1) #[.int .i64 0, .int .i64 0]) := zH ((Blk.newAt _ _ _ (by simp)).to hb)
  have HB := zH (bThen (bAlloc (bAlloc (bSelf w) _) _) hb)
  clear hb HO
  obtain ⟨hs1, kp, fp⟩ := K1.out
  go_wp2_with fail
  have F := (K1.out.set 0 (.int .i64 q1)).set 1 (.int .i64 q2)
  have F0 := F.2.1 0
  have F1 := F.2.1 1
  clear F kp fp
  refine bodyPost_ret (v := .agg #[.int .i64 q1, .int .i64 q2]) ?_ rfl ⟨rfl, ?_⟩
  · simp [results, Tryz.results93, go_sem, F0, F1]
  · exact (HB.out.setCell (p := ⟨w.heap.size + 1, 0, none⟩) (Nat.le_succ _) _).setCell (p := ⟨w.heap.size + 1, 1, none⟩) (Nat.le_succ _) _

theorem QOk.of_pts {l : List (Int × Int)} {v : Int} (h : PtsOk l) (h0 : 0 ≤ v) (hv : v ≤ capV l) : QOk (prQ l v) := by
  obtain ⟨a, b, c, d⟩ := prQ_den h h0 hv
  exact ⟨c, by omega, a, by omega⟩

/-- The pump at the next volume, from the two comparisons. -/
def pmpB (r onB offB : Bool) : Bool := if onB = false then true else if offB = false then false else r
theorem pmpA_eq (p : Plt) (r : Bool) (v : Int) : pmpA p r v = pmpB r (lessQ (p.on, 1) (prQ p.pts v)) (lessQ (prQ p.pts v) (p.off, 1)) := rfl

theorem next_any' (p : Plt) (s : OSt) (d : Int) (a al : Option Addr) (cap cl : Nat) (w : World) (hp : PltOk p) (hs : StOk p s) (hd : 0 ≤ d ∧ d ≤ 50) (hr : Reads w al (p.pts.length * 2) (fracs p.pts)) :
    Calls Tryz.prog 81 #[.agg (plL p a cap al cl), .agg #[.int .i64 s.1, .bool s.2], .int .i64 d] w fun e w' => e = .returned (.tuple #[.agg #[.int .i64 ((nxtA p s d).getD (0, false)).1, .bool ((nxtA p s d).getD (0, false)).2], .bool (nxtA p s d).isSome]) ∧ Below w.heap.size w w' := by
  have hcp := cap_le hp
  have hc0 := cap_pos hp
  have HC := zH (fun W (hb : Below w.heap.size w W) => capacity_any p a al cap cl W (by have := hp.pts.two; omega) (by have := hp.pts.few; omega) (hr.to hb))
  have HPR := zH (fun W (hb : Below w.heap.size w W) x (h0 : 0 ≤ x) (h1 : x ≤ capV p.pts) => pressure_any p x a al cap cl W (OnOk.of_pts hp.pts h0 h1) (hr.to hb))
  have HQ := zH (fun x (h0 : 0 ≤ x) (h1 : x ≤ capV p.pts) => QOk.of_pts hp.pts h0 h1)
  have HN : Hid (nxtA p s d = if vlmA p s d < 0 then none else some (vlmA p s d, pmpA p s.2 (vlmA p s d))) := zH rfl
  have HV : Hid (vlmA p s d = min ((if s.2 then s.1 + p.pump else s.1) - d) (capV p.pts)) := zH rfl
  have HPM := zH (fun v => pmpA_eq p s.2 v)
  obtain ⟨hs0, hs1⟩ := hs
  obtain ⟨hd0, hd1⟩ := hd
  have hpu := hp.pump
  have hpo := hp.on
  have hpf := hp.off
  obtain ⟨v, hv⟩ : ∃ v, vlmA p s d = v := ⟨_, rfl⟩
  obtain ⟨nx, hnx⟩ : ∃ v, nxtA p s d = v := ⟨_, rfl⟩
  rw [hv, hnx] at HN
  rw [hv] at HV
  rw [hnx]
  have HPM := zH (HPM.out v)
  obtain ⟨s1, sr⟩ := s
  obtain ⟨pts, pump, on, off⟩ := p
  dsimp only [plL] at *
  obtain ⟨n, hn⟩ : ∃ n, pts.length = n := ⟨_, rfl⟩
  obtain ⟨C, hC⟩ : ∃ c, capV pts = c := ⟨_, rfl⟩
  rw [hn] at HC HPR ⊢
  rw [hC] at HC HPR HQ HV hs1 hcp hc0
  obtain ⟨pq, hpq⟩ : ∃ q, prQ pts v = q := ⟨_, rfl⟩
  have HPR := zH (fun W hb h0 h1 => HPR.out W hb v h0 h1)
  have HQ := zH (fun h0 h1 => HQ.out v h0 h1)
  rw [hpq] at HPR HQ HPM
  clear hpq hn hC hv hnx hr hp
  obtain ⟨pu0, pu1⟩ := hpu
  obtain ⟨po0, po1⟩ := hpo
  obtain ⟨pf0, pf1⟩ := hpf
  obtain ⟨pb, hpb⟩ : ∃ b, pmpA ⟨pts, pump, on, off⟩ sr v = b := ⟨_, rfl⟩
  rw [hpb] at HN HPM
  clear hpb
  cases sr
  · go_enter Tryz.func81, Tryz.ntmps81
    go_wp2_with fail
    obtain ⟨W, hW⟩ : ∃ W, ((w.alloc (.cells #[.slice a n cap, .int .i64 pump, .int .i64 on, .int .i64 off, .slice al n cl] 145)).alloc (.cells #[.int .i64 s1, .bool false] 53)).alloc (.cells #[.int .i64 0, .bool false] 53) = W := ⟨_, rfl⟩
    rw [hW]
    have K0 : Hid (Blk W w.heap.size #[.slice a n cap, .int .i64 pump, .int .i64 on, .int .i64 off, .slice al n cl]) := by subst hW; exact zH (((Blk.new _ _ _).alloc _).alloc _)
    have K1 : Hid (Blk W (w.heap.size + 1) #[.int .i64 s1, .bool false]) := by subst hW; exact zH ((Blk.newAt _ _ _ (by simp)).alloc _)
    have K2 : Hid (Blk W (w.heap.size + 1 + 1) #[.int .i64 0, .bool false]) := by subst hW; exact zH (Blk.newAt _ _ _ (by simp))
    have HB : Hid (Below w.heap.size w W) := by subst hW; exact zH (bAlloc (bAlloc (bAlloc (bSelf w) _) _) _)
    clear hW
    refine wp_region_quiet_tail 8 (fun w' => Below (World.heap W).size (W) w') (by kernel_rfl) (by kernel_rfl) (Below.refl _ _).drew ?_
    simp only [List.take_succ_cons, List.take_zero, List.drop_succ_cons, List.drop_zero]
    refine WQ.out ?_
    repeat (first | (refine WQ_no (by rfl) ?_; (simp only [Act.put, zzT, zzO, zzS])) | (refine WQ_yes (by rfl) ?_; apply Exists.intro; refine ⟨fun w1 hb1 => ?_, ?_⟩; (focus (((obtain ⟨-, k0, -⟩ := K0.out.to hb1; obtain ⟨-, k1, -⟩ := K1.out.to hb1); have hb1 := zH hb1; go_simp); (try (go_bits; try go_simp)); (try (rw [if_pos (by omega)]; try go_simp)); (first | done | (((go_at_call 124); refine (HC.out _ (bThen HB.out hb1.out)).mono ?_; rintro e w' ⟨rfl, hb⟩; exact ⟨rfl, bThen hb1.out hb⟩)) | (with_reducible rfl) | exact rfl))); (simp only [Act.put, zzT, zzO, zzS])))
    refine WQ_nil ?_
    intro w1 hb1
    replace K0 := zH (K0.out.to hb1)
    replace K1 := zH (K1.out.to hb1)
    replace K2 := zH (K2.out.to hb1)
    replace HB := zH (bThen HB.out hb1)
    clear hb1
    have hmn : (if C < s1 - d then C else s1 - d) = v := by have := HV.out; simp only [if_false, Bool.false_eq_true] at this; rw [this]; split <;> omega
    have hvC : v ≤ C := by rw [← hmn]; split <;> omega
    have hvl : -1000 ≤ v := by rw [← hmn]; split <;> omega
    rw [hmn]
    clear hmn HV
    obtain ⟨hs1', k1, f1⟩ := K1.out
    by_cases hv0 : v < 0
    · have hx : nx = none := by rw [HN.out, if_pos hv0]
      subst hx
      obtain ⟨hs2', k2, f2⟩ := K2.out
      clear HN HPM HPR HQ HC
      go_wp2_with fail
      have F := (((K2.out.other (p := ⟨w.heap.size + 1, 0, none⟩) (by simp) (.int .i64 v)).set 0 (.int .i64 0)).set 1 (.bool false))
      have F0 := F.2.1 0
      have F1 := F.2.1 1
      clear F k1 k2 f1 f2
      refine bodyPost_ret (v := .tuple #[.agg #[.int .i64 0, .bool false], .bool false]) ?_ rfl ⟨rfl, ?_⟩
      · simp [results, Tryz.results81, go_sem, F0, F1]
      · exact ((HB.out.setCell (p := ⟨w.heap.size + 1, 0, none⟩) (Nat.le_succ _) _).setCell (p := ⟨w.heap.size + 1 + 1, 0, none⟩) (by simp; omega) _).setCell (p := ⟨w.heap.size + 1 + 1, 1, none⟩) (by simp; omega) _
    · have hv1 : 0 ≤ v := by omega
      have hx : nx = some (v, pb) := by rw [HN.out, if_neg hv0]
      subst hx
      clear HN HC
      obtain ⟨-, k0, -⟩ := K0.out
      go_wp2_with fail
      clear k0
      obtain ⟨w4, hw4⟩ : ∃ W, w1.setCell ⟨w.heap.size + 1, 0, none⟩ (.int .i64 v) = W := ⟨_, rfl⟩
      rw [hw4]
      replace K0 : Hid (Blk w4 w.heap.size #[.slice a n cap, .int .i64 pump, .int .i64 on, .int .i64 off, .slice al n cl]) := by subst hw4; exact zH (K0.out.other (p := ⟨w.heap.size + 1, 0, none⟩) (by simp) _)
      replace K1 : Hid (Blk w4 (w.heap.size + 1) #[.int .i64 v, .bool false]) := by subst hw4; exact zH (K1.out.set 0 _)
      replace K2 : Hid (Blk w4 (w.heap.size + 1 + 1) #[.int .i64 0, .bool false]) := by subst hw4; exact zH (K2.out.other (p := ⟨w.heap.size + 1, 0, none⟩) (by simp) _)
      replace HB : Hid (Below w.heap.size w w4) := by subst hw4; exact zH (HB.out.setCell (p := ⟨w.heap.size + 1, 0, none⟩) (Nat.le_succ _) _)
      clear hw4 k1 f1 hs1'
      refine (HPR.out w4 HB.out hv1 hvC).mono ?_
      rintro e w5 ⟨rfl, hb⟩
      replace K0 := zH (K0.out.to hb)
      replace K1 := zH (K1.out.to hb)
      replace K2 := zH (K2.out.to hb)
      replace HB := zH (bThen HB.out hb)
      clear hb HPR
      obtain ⟨q1, q2⟩ := pq
      dsimp only at HQ ⊢
      have hqo := HQ.out hv1 hvC
      have HL := zH (fun W => oLess_any (on, 1) (q1, q2) W ⟨by dsimp only; omega, by dsimp only; omega⟩ (show Nin 1 from ⟨by decide, by decide⟩) ⟨by have := hqo.n0; dsimp only at *; omega, by have := hqo.n1; dsimp only at *; omega⟩ ⟨by have := hqo.d0; dsimp only at *; omega, by have := hqo.d1; dsimp only at *; omega⟩)
      have HL2 := zH (fun W => oBelow_any (q1, q2) off W ⟨by have := hqo.n0; dsimp only at *; omega, by have := hqo.n1; dsimp only at *; omega⟩ ⟨by have := hqo.d0; dsimp only at *; omega, by have := hqo.d1; dsimp only at *; omega⟩ ⟨by omega, by omega⟩)
      dsimp only at HL HL2
      obtain ⟨c1, hc1⟩ : ∃ b, lessQ (on, 1) (q1, q2) = b := ⟨_, rfl⟩
      obtain ⟨c2, hc2⟩ : ∃ b, lessQ (q1, q2) (off, 1) = b := ⟨_, rfl⟩
      rw [hc1, hc2] at HPM
      rw [hc1] at HL
      rw [hc2] at HL2
      clear hc1 hc2 hqo HQ
      have K3 := zH (Blk.new w5 #[.int .i64 q1, .int .i64 q2] 167)
      replace K0 := zH (K0.out.alloc (.cells #[.int .i64 q1, .int .i64 q2] 167))
      replace K1 := zH (K1.out.alloc (.cells #[.int .i64 q1, .int .i64 q2] 167))
      replace K2 := zH (K2.out.alloc (.cells #[.int .i64 q1, .int .i64 q2] 167))
      replace HB := zH (bAlloc HB.out (.cells #[.int .i64 q1, .int .i64 q2] 167))
      obtain ⟨hs0', k0, -⟩ := K0.out
      cases c1
      · obtain rfl : pb = true := HPM.out
        clear HL2 HPM
        go_wp2_with fail
        refine (HL.out _).mono ?_
        rintro e w6 ⟨rfl, hb⟩
        replace K1 := zH (K1.out.to hb)
        replace K2 := zH (K2.out.to hb)
        replace HB := zH (bThen HB.out hb)
        clear hb HL K0 k0 hs0' K3
        obtain ⟨hs1', k1, f1⟩ := K1.out
        obtain ⟨hs2', k2, f2⟩ := K2.out
        go_wp2_with fail
        have F := (((K2.out.other (p := ⟨w.heap.size + 1, 1, none⟩) (by simp) (.bool true)).set 0 (.int .i64 v)).set 1 (.bool true))
        have F0 := F.2.1 0
        have F1 := F.2.1 1
        clear F k1 k2 f1 f2
        refine bodyPost_ret (v := .tuple #[.agg #[.int .i64 v, .bool true], .bool true]) ?_ rfl ⟨rfl, ?_⟩
        · simp [results, Tryz.results81, go_sem, F0, F1]
        · exact ((HB.out.setCell (p := ⟨w.heap.size + 1, 1, none⟩) (Nat.le_succ _) _).setCell (p := ⟨w.heap.size + 1 + 1, 0, none⟩) (by simp; omega) _).setCell (p := ⟨w.heap.size + 1 + 1, 1, none⟩) (by simp; omega) _
      · cases c2
        · obtain rfl : pb = false := HPM.out
          clear HPM
          go_wp2_with fail
          refine (HL.out _).mono ?_
          rintro e w6 ⟨rfl, hb⟩
          replace K0 := zH (K0.out.to hb)
          replace K1 := zH (K1.out.to hb)
          replace K2 := zH (K2.out.to hb)
          replace K3 := zH (K3.out.to hb)
          replace HB := zH (bThen HB.out hb)
          clear hb HL k0 hs0'
          obtain ⟨hs0', k0, -⟩ := K0.out
          obtain ⟨hs3', k3, -⟩ := K3.out
          go_wp2_with fail
          refine (HL2.out _).mono ?_
          rintro e w7 ⟨rfl, hb⟩
          replace K1 := zH (K1.out.to hb)
          replace K2 := zH (K2.out.to hb)
          replace HB := zH (bThen HB.out hb)
          clear hb HL2 k0 hs0' k3 hs3' K0 K3
          obtain ⟨hs1', k1, f1⟩ := K1.out
          obtain ⟨hs2', k2, f2⟩ := K2.out
          go_wp2_with fail
          have F := (((K2.out.other (p := ⟨w.heap.size + 1, 1, none⟩) (by simp) (.bool false)).set 0 (.int .i64 v)).set 1 (.bool false))
          have F0 := F.2.1 0
          have F1 := F.2.1 1
          clear F k1 k2 f1 f2
          refine bodyPost_ret (v := .tuple #[.agg #[.int .i64 v, .bool false], .bool true]) ?_ rfl ⟨rfl, ?_⟩
          · simp [results, Tryz.results81, go_sem, F0, F1]
          · exact ((HB.out.setCell (p := ⟨w.heap.size + 1, 1, none⟩) (Nat.le_succ _) _).setCell (p := ⟨w.heap.size + 1 + 1, 0, none⟩) (by simp; omega) _).setCell (p := ⟨w.heap.size + 1 + 1, 1, none⟩) (by simp; omega) _
        · obtain rfl : pb = false := HPM.out
          clear HPM
          go_wp2_with fail
          refine (HL.out _).mono ?_
          rintro e w6 ⟨rfl, hb⟩
          replace K0 := zH (K0.out.to hb)
          replace K1 := zH (K1.out.to hb)
          replace K2 := zH (K2.out.to hb)
          replace K3 := zH (K3.out.to hb)
          replace HB := zH (bThen HB.out hb)
          clear hb HL k0 hs0'
          obtain ⟨hs0', k0, -⟩ := K0.out
          obtain ⟨hs3', k3, -⟩ := K3.out
          go_wp2_with fail
          refine (HL2.out _).mono ?_
          rintro e w7 ⟨rfl, hb⟩
          replace K1 := zH (K1.out.to hb)
          replace K2 := zH (K2.out.to hb)
          replace HB := zH (bThen HB.out hb)
          clear hb HL2 k0 hs0' k3 hs3' K0 K3
          obtain ⟨hs1', k1, f1⟩ := K1.out
          obtain ⟨hs2', k2, f2⟩ := K2.out
          go_wp2_with fail
          have F := ((K2.out.set 0 (.int .i64 v)).set 1 (.bool false))
          have F0 := F.2.1 0
          have F1 := F.2.1 1
          clear F k1 k2 f1 f2
          refine bodyPost_ret (v := .tuple #[.agg #[.int .i64 v, .bool false], .bool true]) ?_ rfl ⟨rfl, ?_⟩
          · simp [results, Tryz.results81, go_sem, F0, F1]
          · exact (HB.out.setCell (p := ⟨w.heap.size + 1 + 1, 0, none⟩) (by simp; omega) _).setCell (p := ⟨w.heap.size + 1 + 1, 1, none⟩) (by simp; omega) _
  · go_enter Tryz.func81, Tryz.ntmps81
    go_wp2_with fail
    obtain ⟨W, hW⟩ : ∃ W, ((w.alloc (.cells #[.slice a n cap, .int .i64 pump, .int .i64 on, .int .i64 off, .slice al n cl] 145)).alloc (.cells #[.int .i64 (s1 + pump), .bool true] 53)).alloc (.cells #[.int .i64 0, .bool false] 53) = W := ⟨_, rfl⟩
    rw [hW]
    have K0 : Hid (Blk W w.heap.size #[.slice a n cap, .int .i64 pump, .int .i64 on, .int .i64 off, .slice al n cl]) := by subst hW; exact zH (((Blk.new _ _ _).alloc _).alloc _)
    have K1 : Hid (Blk W (w.heap.size + 1) #[.int .i64 (s1 + pump), .bool true]) := by subst hW; exact zH ((Blk.newAt _ _ _ (by simp)).alloc _)
    have K2 : Hid (Blk W (w.heap.size + 1 + 1) #[.int .i64 0, .bool false]) := by subst hW; exact zH (Blk.newAt _ _ _ (by simp))
    have HB : Hid (Below w.heap.size w W) := by subst hW; exact zH (bAlloc (bAlloc (bAlloc (bSelf w) _) _) _)
    clear hW
    refine wp_region_quiet_tail 8 (fun w' => Below (World.heap W).size (W) w') (by kernel_rfl) (by kernel_rfl) (Below.refl _ _).drew ?_
    simp only [List.take_succ_cons, List.take_zero, List.drop_succ_cons, List.drop_zero]
    refine WQ.out ?_
    repeat (first | (refine WQ_no (by rfl) ?_; (simp only [Act.put, zzT, zzO, zzS])) | (refine WQ_yes (by rfl) ?_; apply Exists.intro; refine ⟨fun w1 hb1 => ?_, ?_⟩; (focus (((obtain ⟨-, k0, -⟩ := K0.out.to hb1; obtain ⟨-, k1, -⟩ := K1.out.to hb1); have hb1 := zH hb1; go_simp); (try (go_bits; try go_simp)); (try (rw [if_pos (by omega)]; try go_simp)); (first | done | (((go_at_call 124); refine (HC.out _ (bThen HB.out hb1.out)).mono ?_; rintro e w' ⟨rfl, hb⟩; exact ⟨rfl, bThen hb1.out hb⟩)) | (with_reducible rfl) | exact rfl))); (simp only [Act.put, zzT, zzO, zzS])))
    refine WQ_nil ?_
    intro w1 hb1
    replace K0 := zH (K0.out.to hb1)
    replace K1 := zH (K1.out.to hb1)
    replace K2 := zH (K2.out.to hb1)
    replace HB := zH (bThen HB.out hb1)
    clear hb1
    have hmn : (if C < (s1 + pump) - d then C else (s1 + pump) - d) = v := by have := HV.out; simp only [if_true] at this; rw [this]; split <;> omega
    have hvC : v ≤ C := by rw [← hmn]; split <;> omega
    have hvl : -1000 ≤ v := by rw [← hmn]; split <;> omega
    rw [hmn]
    clear hmn HV
    obtain ⟨hs1', k1, f1⟩ := K1.out
    by_cases hv0 : v < 0
    · have hx : nx = none := by rw [HN.out, if_pos hv0]
      subst hx
      obtain ⟨hs2', k2, f2⟩ := K2.out
      clear HN HPM HPR HQ HC
      go_wp2_with fail
      have F := (((K2.out.other (p := ⟨w.heap.size + 1, 0, none⟩) (by simp) (.int .i64 v)).set 0 (.int .i64 0)).set 1 (.bool false))
      have F0 := F.2.1 0
      have F1 := F.2.1 1
      clear F k1 k2 f1 f2
      refine bodyPost_ret (v := .tuple #[.agg #[.int .i64 0, .bool false], .bool false]) ?_ rfl ⟨rfl, ?_⟩
      · simp [results, Tryz.results81, go_sem, F0, F1]
      · exact ((HB.out.setCell (p := ⟨w.heap.size + 1, 0, none⟩) (Nat.le_succ _) _).setCell (p := ⟨w.heap.size + 1 + 1, 0, none⟩) (by simp; omega) _).setCell (p := ⟨w.heap.size + 1 + 1, 1, none⟩) (by simp; omega) _
    · have hv1 : 0 ≤ v := by omega
      have hx : nx = some (v, pb) := by rw [HN.out, if_neg hv0]
      subst hx
      clear HN HC
      obtain ⟨-, k0, -⟩ := K0.out
      go_wp2_with fail
      clear k0
      obtain ⟨w4, hw4⟩ : ∃ W, w1.setCell ⟨w.heap.size + 1, 0, none⟩ (.int .i64 v) = W := ⟨_, rfl⟩
      rw [hw4]
      replace K0 : Hid (Blk w4 w.heap.size #[.slice a n cap, .int .i64 pump, .int .i64 on, .int .i64 off, .slice al n cl]) := by subst hw4; exact zH (K0.out.other (p := ⟨w.heap.size + 1, 0, none⟩) (by simp) _)
      replace K1 : Hid (Blk w4 (w.heap.size + 1) #[.int .i64 v, .bool true]) := by subst hw4; exact zH (K1.out.set 0 _)
      replace K2 : Hid (Blk w4 (w.heap.size + 1 + 1) #[.int .i64 0, .bool false]) := by subst hw4; exact zH (K2.out.other (p := ⟨w.heap.size + 1, 0, none⟩) (by simp) _)
      replace HB : Hid (Below w.heap.size w w4) := by subst hw4; exact zH (HB.out.setCell (p := ⟨w.heap.size + 1, 0, none⟩) (Nat.le_succ _) _)
      clear hw4 k1 f1 hs1'
      refine (HPR.out w4 HB.out hv1 hvC).mono ?_
      rintro e w5 ⟨rfl, hb⟩
      replace K0 := zH (K0.out.to hb)
      replace K1 := zH (K1.out.to hb)
      replace K2 := zH (K2.out.to hb)
      replace HB := zH (bThen HB.out hb)
      clear hb HPR
      obtain ⟨q1, q2⟩ := pq
      dsimp only at HQ ⊢
      have hqo := HQ.out hv1 hvC
      have HL := zH (fun W => oLess_any (on, 1) (q1, q2) W ⟨by dsimp only; omega, by dsimp only; omega⟩ (show Nin 1 from ⟨by decide, by decide⟩) ⟨by have := hqo.n0; dsimp only at *; omega, by have := hqo.n1; dsimp only at *; omega⟩ ⟨by have := hqo.d0; dsimp only at *; omega, by have := hqo.d1; dsimp only at *; omega⟩)
      have HL2 := zH (fun W => oBelow_any (q1, q2) off W ⟨by have := hqo.n0; dsimp only at *; omega, by have := hqo.n1; dsimp only at *; omega⟩ ⟨by have := hqo.d0; dsimp only at *; omega, by have := hqo.d1; dsimp only at *; omega⟩ ⟨by omega, by omega⟩)
      dsimp only at HL HL2
      obtain ⟨c1, hc1⟩ : ∃ b, lessQ (on, 1) (q1, q2) = b := ⟨_, rfl⟩
      obtain ⟨c2, hc2⟩ : ∃ b, lessQ (q1, q2) (off, 1) = b := ⟨_, rfl⟩
      rw [hc1, hc2] at HPM
      rw [hc1] at HL
      rw [hc2] at HL2
      clear hc1 hc2 hqo HQ
      have K3 := zH (Blk.new w5 #[.int .i64 q1, .int .i64 q2] 167)
      replace K0 := zH (K0.out.alloc (.cells #[.int .i64 q1, .int .i64 q2] 167))
      replace K1 := zH (K1.out.alloc (.cells #[.int .i64 q1, .int .i64 q2] 167))
      replace K2 := zH (K2.out.alloc (.cells #[.int .i64 q1, .int .i64 q2] 167))
      replace HB := zH (bAlloc HB.out (.cells #[.int .i64 q1, .int .i64 q2] 167))
      obtain ⟨hs0', k0, -⟩ := K0.out
      cases c1
      · obtain rfl : pb = true := HPM.out
        clear HL2 HPM
        go_wp2_with fail
        refine (HL.out _).mono ?_
        rintro e w6 ⟨rfl, hb⟩
        replace K1 := zH (K1.out.to hb)
        replace K2 := zH (K2.out.to hb)
        replace HB := zH (bThen HB.out hb)
        clear hb HL K0 k0 hs0' K3
        obtain ⟨hs1', k1, f1⟩ := K1.out
        obtain ⟨hs2', k2, f2⟩ := K2.out
        go_wp2_with fail
        have F := (((K2.out.other (p := ⟨w.heap.size + 1, 1, none⟩) (by simp) (.bool true)).set 0 (.int .i64 v)).set 1 (.bool true))
        have F0 := F.2.1 0
        have F1 := F.2.1 1
        clear F k1 k2 f1 f2
        refine bodyPost_ret (v := .tuple #[.agg #[.int .i64 v, .bool true], .bool true]) ?_ rfl ⟨rfl, ?_⟩
        · simp [results, Tryz.results81, go_sem, F0, F1]
        · exact ((HB.out.setCell (p := ⟨w.heap.size + 1, 1, none⟩) (Nat.le_succ _) _).setCell (p := ⟨w.heap.size + 1 + 1, 0, none⟩) (by simp; omega) _).setCell (p := ⟨w.heap.size + 1 + 1, 1, none⟩) (by simp; omega) _
      · cases c2
        · obtain rfl : pb = false := HPM.out
          clear HPM
          go_wp2_with fail
          refine (HL.out _).mono ?_
          rintro e w6 ⟨rfl, hb⟩
          replace K0 := zH (K0.out.to hb)
          replace K1 := zH (K1.out.to hb)
          replace K2 := zH (K2.out.to hb)
          replace K3 := zH (K3.out.to hb)
          replace HB := zH (bThen HB.out hb)
          clear hb HL k0 hs0'
          obtain ⟨hs0', k0, -⟩ := K0.out
          obtain ⟨hs3', k3, -⟩ := K3.out
          go_wp2_with fail
          refine (HL2.out _).mono ?_
          rintro e w7 ⟨rfl, hb⟩
          replace K1 := zH (K1.out.to hb)
          replace K2 := zH (K2.out.to hb)
          replace HB := zH (bThen HB.out hb)
          clear hb HL2 k0 hs0' k3 hs3' K0 K3
          obtain ⟨hs1', k1, f1⟩ := K1.out
          obtain ⟨hs2', k2, f2⟩ := K2.out
          go_wp2_with fail
          have F := (((K2.out.other (p := ⟨w.heap.size + 1, 1, none⟩) (by simp) (.bool false)).set 0 (.int .i64 v)).set 1 (.bool false))
          have F0 := F.2.1 0
          have F1 := F.2.1 1
          clear F k1 k2 f1 f2
          refine bodyPost_ret (v := .tuple #[.agg #[.int .i64 v, .bool false], .bool true]) ?_ rfl ⟨rfl, ?_⟩
          · simp [results, Tryz.results81, go_sem, F0, F1]
          · exact ((HB.out.setCell (p := ⟨w.heap.size + 1, 1, none⟩) (Nat.le_succ _) _).setCell (p := ⟨w.heap.size + 1 + 1, 0, none⟩) (by simp; omega) _).setCell (p := ⟨w.heap.size + 1 + 1, 1, none⟩) (by simp; omega) _
        · obtain rfl : pb = true := HPM.out
          clear HPM
          go_wp2_with fail
          refine (HL.out _).mono ?_
          rintro e w6 ⟨rfl, hb⟩
          replace K0 := zH (K0.out.to hb)
          replace K1 := zH (K1.out.to hb)
          replace K2 := zH (K2.out.to hb)
          replace K3 := zH (K3.out.to hb)
          replace HB := zH (bThen HB.out hb)
          clear hb HL k0 hs0'
          obtain ⟨hs0', k0, -⟩ := K0.out
          obtain ⟨hs3', k3, -⟩ := K3.out
          go_wp2_with fail
          refine (HL2.out _).mono ?_
          rintro e w7 ⟨rfl, hb⟩
          replace K1 := zH (K1.out.to hb)
          replace K2 := zH (K2.out.to hb)
          replace HB := zH (bThen HB.out hb)
          clear hb HL2 k0 hs0' k3 hs3' K0 K3
          obtain ⟨hs1', k1, f1⟩ := K1.out
          obtain ⟨hs2', k2, f2⟩ := K2.out
          go_wp2_with fail
          have F := ((K2.out.set 0 (.int .i64 v)).set 1 (.bool true))
          have F0 := F.2.1 0
          have F1 := F.2.1 1
          clear F k1 k2 f1 f2
          refine bodyPost_ret (v := .tuple #[.agg #[.int .i64 v, .bool true], .bool true]) ?_ rfl ⟨rfl, ?_⟩
          · simp [results, Tryz.results81, go_sem, F0, F1]
          · exact (HB.out.setCell (p := ⟨w.heap.size + 1 + 1, 0, none⟩) (by simp; omega) _).setCell (p := ⟨w.heap.size + 1 + 1, 1, none⟩) (by simp; omega) _
end
end Go.Proofs.YtbpcapcgbnbknaaGreat
