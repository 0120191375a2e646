/-
  Texts of this claim, in their build order: OR9.
-/
import Derived.Test.YtjfedpblkejmkaaGreatRun46
import Derived.Test.YtjfedpblkejmkaaGreatRun24

/-
  The reference's Run.
-/
namespace Go.Proofs.YtjfedpblkejmkaaGreat
open Go.RowKit
attribute [local go_sem] Oper.semAt_some

set_option maxHeartbeats 6400000 in
set_option maxRecDepth 100000 in
theorem rnRun_any (p : Plt) (s : OSt) (ds : List Int) (a ad : Option Addr) (cap cd : Nat) (w : World) (h0 : opSE p s.1 = 0) (hld : ds.length ≤ maxLen) (hr : Reads w a (p.pts.length * 2) (fracs p.pts)) (hrd : Reads w ad ds.length (ints ds)) :
    Calls Tryz.prog 30 #[.agg (plC p a cap), .agg #[.int .i64 s.1, .bool s.2], .slice ad ds.length cd] w (SPost (runO p s ds) (rnR p s ds) w) := by
  unfold maxLen at hld
  have hpk := (opSE_ok h0).1
  have HSK := Lib.hid (opSE_ok h0).2
  have HDR := Lib.hid hrd
  have HE : Hid (runE0 p s ds.length = unl (decide ((ds.length : Int) ≤ 20)) 8) := Lib.hid (by unfold runE0; rw [h0]; unfold firstE; rw [if_pos rfl]; unfold firstE; by_cases h : unl (decide ((ds.length : Int) ≤ 20)) 8 = 0 <;> simp [h, firstE])
  have HRA : Hid (runE0 p s ds.length = 0 → rnR p s ds = (runA p s ds).2) := Lib.hid runR_of
  have HRB : Hid (runE0 p s ds.length ≠ 0 → rnR p s ds = runE0 p s ds.length) := Lib.hid (fun h => by unfold rnR; rw [if_neg h])
  have HNX := Lib.hid (fun W (hb : Below w.heap.size w W) (st : OSt) (hs : StOk p st) d (hd : 0 ≤ d ∧ d ≤ 50) => rnNext_any p st d a cap W hpk hs hd (hr.to hb))
  have HPO : Hid (∀ e w', SPost (runO p s ds) (rnR p s ds) w e w' ↔ ∃ a' c', e = .returned (.tuple #[.slice a' (runO p s ds).length c', .int .i64 (rnR p s ds)]) ∧ (runO p s ds).length ≤ c' ∧ Reads w' a' ((runO p s ds).length * 2) (osts (runO p s ds)) ∧ Below w.heap.size w w' ∧ ∀ q, a' = some q → w.heap.size ≤ q.block) := Lib.hid (fun e w' => Iff.rfl)
  obtain ⟨re, hre⟩ : ∃ e, runE0 p s ds.length = e := ⟨_, rfl⟩
  obtain ⟨n, hn⟩ : ∃ n, ds.length = n := ⟨_, rfl⟩
  have HN := Lib.hid hn
  rw [hre] at HE HRA HRB
  rw [hn] at HE HDR hld ⊢
  clear hre hn hr hrd h0 hpk
  obtain ⟨s1, sr⟩ := s
  dsimp only at HSK ⊢
  by_cases h20 : n ≤ 20
  · have hre : re = 0 := by rw [HE.out, decide_eq_true (by omega)]; rfl
    have HRF := Lib.hid (HRA.out hre)
    clear HRA HRB HE hre re
    go_enter Tryz.func30, Tryz.ntmps30
    go_wp2_with fail
    obtain ⟨w2, hw2⟩ : ∃ w2, ((w.alloc (.cells #[.slice a p.pts.length cap, .int .i64 p.pump, .int .i64 p.on, .int .i64 p.off] 44)).alloc (.cells #[.int .i64 s1, .bool sr] 46)).alloc (.cells #[.int .i64 s1, .bool sr] 46) = w2 := ⟨_, rfl⟩
    rw [hw2]
    have HI : Hid (RunI9 p (s1, sr) ds #[.slice a p.pts.length cap, .int .i64 p.pump, .int .i64 p.on, .int .i64 p.off] 0 (.slice (some ⟨w.heap.size + 1 + 1, 0, none⟩) 1 1) (s1, sr) [] w w2) := by
      subst hw2
      refine Lib.hid ⟨((Blk.new _ _ _).alloc _).alloc _, ?_, bAlloc (bAlloc (bAlloc (bSelf _) _) _) _, rfl, rfl, rfl, HSK.out⟩
      have := World.ownsRow_lit (base := w.heap.size + 1) (e := 46) (size := 2) ((w.alloc (.cells #[.slice a p.pts.length cap, .int .i64 p.pump, .int .i64 p.on, .int .i64 p.off] 44)).alloc (.cells #[.int .i64 s1, .bool sr] 46)) #[.int .i64 s1, .bool sr] 1 (by simp) (by decide) rfl
      simpa [scells] using this
    have hs2 : w.heap.size + 2 < w2.heap.size := by subst hw2; simp
    clear hw2 HSK
    go_loopw [8, 9, 10, 11, 29] (fun v i _ _ _ wr => ∃ (k : Nat) (cur : OSt) (pre : List OSt), i = .int .i64 k ∧ k ≤ n ∧ Hid (RunI9 p (s1, sr) ds #[.slice a p.pts.length cap, .int .i64 p.pump, .int .i64 p.on, .int .i64 p.off] k v cur pre w wr) ∧ w.heap.size + 2 < wr.heap.size) (fun _ i _ _ _ _ => n - (intOf i).toNat)
    case atStart => exact ⟨0, _, [], rfl, Nat.zero_le _, HI, hs2⟩
    case round =>
      obtain ⟨k, cur, pre, rfl, hk, HI, hsz⟩ := hrel
      obtain ⟨g, vc, rfl⟩ := ownsRow_succ HI.out.own
      have hbw := HI.out.bel
      by_cases hlt : k < n
      · have hdl : ds.length = n := HN.out
        have hkd : k < ds.length := by omega
        obtain ⟨b, off, rfl, hb, hc⟩ := HDR.out.at (k := k) hlt
        have hb2 : b < wr.heap.size := Nat.lt_of_lt_of_le hb hbw.size
        obtain ⟨d, hd⟩ : ∃ d, gi ds k = d := ⟨_, rfl⟩
        have c0 : wr.cell? ⟨b, off + k, none⟩ = some (.int .i64 d) := ((hbw.cell (p := ⟨b, off + k, none⟩) hb).trans (hc k hlt)).trans (by unfold ints; rw [hd])
        have HGO := Lib.hid (fun t (hf : wthn d 0 50 = true) (hn : nxtA p cur d = some t) => runA_go (p := p) (s := cur) hkd (by rw [hd]; exact hf) (by rw [hd]; exact hn))
        have HNO := Lib.hid (fun (hf : wthn d 0 50 = false) => runA_no (p := p) (s := cur) hkd (by rw [hd]; exact hf))
        have HEN := Lib.hid (fun (hf : wthn d 0 50 = true) (hn : nxtA p cur d = none) => runA_end (p := p) (s := cur) hkd (by rw [hd]; exact hf) (by rw [hd]; exact hn))
        clear hc hd hkd hdl
        cases hf : wthn d 0 50
        · have HFL : Hid (∀ W, Calls Tryz.prog 33 #[.int .i64 d] W fun e w' => e = .returned (.int .i64 2) ∧ W = w') := Lib.hid (fun W => by have := rFlowErr_any d W; rw [hf] at this; exact this)
          have HF := Lib.hid hf
          clear hf HNX
          go_wp2_with (first | (go_at_call 33; refine (HFL.out _).mono ?_; rintro e w' ⟨rfl, rfl⟩))
          go_ret2
          have hrr : rnR p (s1, sr) ds = 2 := (HRF.out.trans HI.out.er).trans (congrArg Prod.snd (HNO.out HF.out))
          have hro : runO p (s1, sr) ds = [] := by unfold runO; exact if_neg (by rw [hrr]; decide)
          refine (HPO.out _ _).2 ⟨none, 0, ?_, ?_, ?_, ?_, fun q hq => by cases hq⟩
          · rw [hrr, hro]; rfl
          · rw [hro]; exact Nat.le_refl _
          · rw [hro]; exact .inl rfl
          · exact hbw
        · have HFL : Hid (∀ W, Calls Tryz.prog 33 #[.int .i64 d] W fun e w' => e = .returned (.int .i64 0) ∧ W = w') := Lib.hid (fun W => by have := rFlowErr_any d W; rw [hf] at this; exact this)
          have HF := Lib.hid hf
          have hdb := wthn_iff.1 hf
          clear hf HNO
          have HRW := Lib.hid (fun W (hb : Below w.heap.size w W) => HNX.out W hb cur HI.out.st d hdb)
          have hpl := HI.out.len
          obtain ⟨a', cap', e, hcp, hrdr, hfr⟩ := Reads.of_row (f := osts (pre ++ [cur])) HI.out.own (fun i hi => scells_get _ i (by simp; omega))
          cases e
          obtain ⟨g', off', e, hg, hgc⟩ := hrdr.at (k := 0) (by omega)
          cases e
          have hlast : sg (pre ++ [cur]) k = cur := by unfold sg; rw [← hpl, List.getD_eq_getElem?_getD, List.getElem?_append_right (Nat.le_refl _), Nat.sub_self]; rfl
          obtain ⟨c1, c2⟩ := cur
          have e0 : wr.cell? ⟨g, k * 2, none⟩ = some (.int .i64 c1) := by have := hgc (k * 2) (by omega); rw [osts0, hlast, Nat.zero_add] at this; exact this
          have e1 : wr.cell? ⟨g, k * 2 + 1, none⟩ = some (.bool c2) := by have := hgc (k * 2 + 1) (by omega); rw [osts1, hlast, Nat.zero_add] at this; exact this
          clear hgc hlast hrdr hfr hcp hpl
          have E0 := Lib.hid e0
          have E1 := Lib.hid e1
          have C0 := Lib.hid c0
          have HKN : Hid ((nxtA p (c1, c2) d).isSome = false → nxtA p (c1, c2) d = none) := Lib.hid (fun h => by simpa using h)
          have HKS : Hid ((nxtA p (c1, c2) d).isSome = true → nxtA p (c1, c2) d = some ((nxtA p (c1, c2) d).getD (0, false))) := Lib.hid (fun h => by cases hx : nxtA p (c1, c2) d with | none => rw [hx] at h; cases h | some t => rfl)
          obtain ⟨nt, hnt⟩ : ∃ t, (nxtA p (c1, c2) d).getD (0, false) = t := ⟨_, rfl⟩
          obtain ⟨ok, hok⟩ : ∃ t, (nxtA p (c1, c2) d).isSome = t := ⟨_, rfl⟩
          dsimp only at HRW
          rw [hnt, hok] at HRW
          rw [hok] at HKN HKS
          rw [hnt] at HKS
          clear hnt hok e0 e1 HNX hdb
          obtain ⟨t1, t2⟩ := nt
          dsimp only at HRW
          have hK8 := Nat.lt_of_lt_of_le (Nat.lt_succ_self w.heap.size) (show w.heap.size + 1 ≤ wr.heap.size by omega)
          go_wp2_with (first | (go_at_call 33; refine (HFL.out _).mono ?_; rintro e w' ⟨rfl, rfl⟩))
          clear HFL c0
          refine wp_region_tree (by kernel_rfl) (fun wd hwd => ?_)
          have T := Lib.hid hwd
          clear hwd
          refine WT_yes 0 rfl (by kernel_rfl) (fun _ _ _ _ _ h => h) (by rfl) ?_; apply Exists.intro; refine ⟨fun w1 hb1 => ?_, ?_⟩; (focus (((obtain ⟨-, k8, -⟩ := (HI.out.box.to T.out).below hb1 hK8); have hb1 := Lib.hid hb1; go_simp); (try (go_bits; try go_simp)); (try (rw [if_pos (by omega)]; try go_simp)); (first | done | (fail) | (with_reducible rfl) | exact rfl)))
          simp only [Act.put, List.setIfInBounds_toArray, List.set_cons_zero, List.set_cons_succ]
          refine WT_yes 1 rfl (by kernel_rfl) (fun _ _ _ _ _ h => h) (by rfl) ?_; apply Exists.intro; refine ⟨fun w1 hb1 => ?_, ?_⟩; (focus ((skip; have hb1 := Lib.hid hb1; go_simp); (try (go_bits; try go_simp)); (try (rw [if_pos (by omega)]; try go_simp)); (first | done | (fail) | (with_reducible rfl) | exact rfl)))
          simp only [Act.put, List.setIfInBounds_toArray, List.set_cons_zero, List.set_cons_succ]
          refine WT_yes 2 rfl (by kernel_rfl) (fun _ _ _ _ _ h => h) (by rfl) ?_; apply Exists.intro; refine ⟨fun w1 hb1 => ?_, ?_⟩; (focus ((skip; have hb1 := Lib.hid hb1; go_simp); (try (go_bits; try go_simp)); (try (rw [if_pos (by omega)]; try go_simp)); (first | done | (fail) | (with_reducible rfl) | exact rfl)))
          simp only [Act.put, List.setIfInBounds_toArray, List.set_cons_zero, List.set_cons_succ]
          refine WT_yes 3 rfl (by kernel_rfl) (fun _ _ _ _ _ h => h) (by rfl) ?_; apply Exists.intro; refine ⟨fun w1 hb1 => ?_, ?_⟩; (focus ((skip; have hb1 := Lib.hid hb1; go_simp); (try (go_bits; try go_simp)); (try (rw [if_pos (by omega)]; try go_simp)); (first | done | (fail) | (with_reducible rfl) | exact rfl)))
          simp only [Act.put, List.setIfInBounds_toArray, List.set_cons_zero, List.set_cons_succ]
          refine WT_yes 4 rfl (by kernel_rfl) (fun _ _ _ _ _ h => h) (by rfl) ?_; apply Exists.intro; refine ⟨fun w1 hb1 => ?_, ?_⟩; (focus (((have e0 := (hb1.cell (p := ⟨g, k * 2, none⟩) hg).trans ((T.out.cell (p := ⟨g, k * 2, none⟩) hg).trans E0.out); have e1 := (hb1.cell (p := ⟨g, k * 2 + 1, none⟩) hg).trans ((T.out.cell (p := ⟨g, k * 2 + 1, none⟩) hg).trans E1.out)); have hb1 := Lib.hid hb1; go_simp); (try (go_bits; try go_simp)); (try (rw [if_pos (by omega)]; try go_simp)); (first | done | (fail) | (with_reducible rfl) | exact rfl)))
          simp only [Act.put, List.setIfInBounds_toArray, List.set_cons_zero, List.set_cons_succ]
          refine WT_yes 5 rfl (by kernel_rfl) (fun _ _ _ _ _ h => h) (by rfl) ?_; apply Exists.intro; refine ⟨fun w1 hb1 => ?_, ?_⟩; (focus ((skip; have hb1 := Lib.hid hb1; go_simp); (try (go_bits; try go_simp)); (try (rw [if_pos (by omega)]; try go_simp)); (first | done | (fail) | (with_reducible rfl) | exact rfl)))
          simp only [Act.put, List.setIfInBounds_toArray, List.set_cons_zero, List.set_cons_succ]
          refine WT_yes 6 rfl (by kernel_rfl) (fun _ _ _ _ _ h => h) (by rfl) ?_; apply Exists.intro; refine ⟨fun w1 hb1 => ?_, ?_⟩; (focus ((skip; have hb1 := Lib.hid hb1; go_simp); (try (go_bits; try go_simp)); (try (rw [if_pos (by omega)]; try go_simp)); (first | done | (fail) | (with_reducible rfl) | exact rfl)))
          simp only [Act.put, List.setIfInBounds_toArray, List.set_cons_zero, List.set_cons_succ]
          refine WT_yes 7 rfl (by kernel_rfl) (fun _ _ _ _ _ h => h) (by rfl) ?_; apply Exists.intro; refine ⟨fun w1 hb1 => ?_, ?_⟩; (focus ((skip; have hb1 := Lib.hid hb1; go_simp); (try (go_bits; try go_simp)); (try (rw [if_pos (by omega)]; try go_simp)); (first | done | (fail) | (with_reducible rfl) | exact rfl)))
          simp only [Act.put, List.setIfInBounds_toArray, List.set_cons_zero, List.set_cons_succ]
          refine WT_yes 8 rfl (by kernel_rfl) (fun _ _ _ _ _ h => h) (by rfl) ?_; apply Exists.intro; refine ⟨fun w1 hb1 => ?_, ?_⟩; (focus (((have c0 := (hb1.cell (p := ⟨b, off + k, none⟩) hb2).trans ((T.out.cell (p := ⟨b, off + k, none⟩) hb2).trans C0.out)); have hb1 := Lib.hid hb1; go_simp); (try (go_bits; try go_simp)); (try (rw [if_pos (by omega)]; try go_simp)); (first | done | (fail) | (with_reducible rfl) | exact rfl)))
          simp only [Act.put, List.setIfInBounds_toArray, List.set_cons_zero, List.set_cons_succ]
          refine WT_two 9 13 rfl rfl (by kernel_rfl) ?_ ?_
          · unfold stepT
            go_wp2_with fail
            refine (HRW.out _ (bThen hbw T.out)).mono ?_
            rintro e u1 ⟨rfl, hb⟩
            have hbd := Lib.hid (hb.mono T.out.size)
            replace T := Lib.hid (bThen T.out hb)
            clear hb
            go_wp2_with fail
            refine ⟨hbd.out, ?_⟩
            clear hbd
            refine WT_yes 10 rfl (by kernel_rfl) (fun _ _ _ _ _ h => h) (by rfl) ?_; apply Exists.intro; refine ⟨fun w1 hb1 => ?_, ?_⟩; (focus ((skip; have hb1 := Lib.hid hb1; go_simp); (try (go_bits; try go_simp)); (try (rw [if_pos (by omega)]; try go_simp)); (first | done | (fail) | (with_reducible rfl) | exact rfl)))
            simp only [Act.put, List.setIfInBounds_toArray, List.set_cons_zero, List.set_cons_succ]
            refine WT_yes 11 rfl (by kernel_rfl) (fun _ _ _ _ _ h => h) (by rfl) ?_; apply Exists.intro; refine ⟨fun w1 hb1 => ?_, ?_⟩; (focus ((skip; have hb1 := Lib.hid hb1; go_simp); (try (go_bits; try go_simp)); (try (rw [if_pos (by omega)]; try go_simp)); (first | done | (fail) | (with_reducible rfl) | exact rfl)))
            simp only [Act.put, List.setIfInBounds_toArray, List.set_cons_zero, List.set_cons_succ]
            refine WT_yes 12 rfl (by kernel_rfl) (fun _ _ _ _ _ h => h) (by rfl) ?_; apply Exists.intro; refine ⟨fun w1 hb1 => ?_, ?_⟩; (focus ((skip; have hb1 := Lib.hid hb1; go_simp); (try (go_bits; try go_simp)); (try (rw [if_pos (by omega)]; try go_simp)); (first | done | (fail) | (with_reducible rfl) | exact rfl)))
            simp only [Act.put, List.setIfInBounds_toArray, List.set_cons_zero, List.set_cons_succ]
            refine WT_one 13 rfl (by kernel_rfl) ?_
            unfold stepT
            go_wp2_with fail
            obtain ⟨u2, hwA⟩ : ∃ wA, u1.alloc (.cells #[.int .i64 0, .bool false] 46) = wA := ⟨_, rfl⟩
            rw [hwA]
            have hb : Below u1.heap.size u1 u2 := by subst hwA; exact bAlloc (bSelf _) _
            have KBS : Hid (Blk u2 u1.heap.size #[.int .i64 0, .bool false]) := by subst hwA; exact Blk.new _ _ _
            clear hwA
            have BSN : Hid (wr.heap.size ≤ u1.heap.size) := Lib.hid T.out.size
            obtain ⟨BS, hBS⟩ : ∃ N, u1.heap.size = N := ⟨_, rfl⟩
            have hbd := Lib.hid (hb.mono T.out.size)
            replace T := Lib.hid (bThen T.out hb)
            clear hb
            rw [hBS] at KBS BSN  ⊢
            clear hBS
            refine ⟨hbd.out, ?_⟩
            clear hbd
            refine WT_one 14 rfl (by kernel_rfl) ?_
            unfold stepT
            obtain ⟨-, kx, fx⟩ := KBS.out
            go_wp2_with fail
            clear kx fx
            obtain ⟨u3, hu⟩ : ∃ u, (u2.setCell ⟨BS, 0, none⟩ (.int .i64 t1)).setCell ⟨BS, 1, none⟩ (.bool t2) = u := ⟨_, rfl⟩
            have hb : Below wr.heap.size u2 u3 := by rw [← hu]; exact ((Below.refl _ _).setCell (p := ⟨BS, 0, none⟩) BSN.out _).setCell (p := ⟨BS, 1, none⟩) BSN.out _
            replace KBS := Lib.hid ((KBS.out.set 0 (.int .i64 t1)).set 1 (.bool t2))
            rw [hu] at KBS ⊢
            clear hu
            replace T := Lib.hid (T.out.trans hb)
            refine ⟨hb, ?_⟩
            clear hb
            refine WT_yes 15 rfl (by kernel_rfl) (fun _ _ _ _ _ h => h) (by rfl) ?_; apply Exists.intro; refine ⟨fun w1 hb1 => ?_, ?_⟩; (focus ((skip; have hb1 := Lib.hid hb1; go_simp); (try (go_bits; try go_simp)); (try (rw [if_pos (by omega)]; try go_simp)); (first | done | (fail) | (with_reducible rfl) | exact rfl)))
            simp only [Act.put, List.setIfInBounds_toArray, List.set_cons_zero, List.set_cons_succ]
            refine WT_done (by kernel_rfl) ?_
            have HI1 := Lib.hid (⟨HI.out.box.to T.out, owns_to HI.out.own T.out, bThen hbw T.out, HI.out.len, HI.out.eq, HI.out.er, HI.out.st⟩ : RunI9 p (s1, sr) ds #[.slice a p.pts.length cap, .int .i64 p.pump, .int .i64 p.on, .int .i64 p.off] k (.slice (some ⟨g, 0, none⟩) (k + 1) vc) (c1, c2) pre w u3)
            have hs5 : wr.heap.size ≤ u3.heap.size := T.out.size
            clear T HRW E0 E1 C0
            cases ok
            · have HX := Lib.hid (HKN.out rfl)
              go_wp2_with fail
              go_ret2
              have hrr : rnR p (s1, sr) ds = 22 := (HRF.out.trans HI1.out.er).trans (congrArg Prod.snd (HEN.out HF.out HX.out))
              have hro : runO p (s1, sr) ds = [] := by unfold runO; exact if_neg (by rw [hrr]; decide)
              refine (HPO.out _ _).2 ⟨none, 0, ?_, ?_, ?_, ?_, fun q hq => by cases hq⟩
              · rw [hrr, hro]; rfl
              · rw [hro]; exact Nat.le_refl _
              · rw [hro]; exact .inl rfl
              · exact HI1.out.bel
            · have HX := Lib.hid (HKS.out rfl)
              obtain ⟨W6, hW6⟩ : ∃ W, u3 = W := ⟨_, rfl⟩
              rw [hW6] at HI1 KBS hs5 ⊢
              clear hW6
              obtain ⟨hS1, k13, -⟩ := KBS.out
              have HROW := Lib.hid (HI1.out.own.alloc (.cells #[.int .i64 t1, .bool t2] 46))
              have HNN := Lib.hid (Blk.new W6 #[.int .i64 t1, .bool t2] 46).news
              have hlo := Lib.hid HI1.out.own.lt
              go_wp2_with (at_builtin; refine wpList_app (w.heap.size + 1) rtSt rfl (.tmp 44) (.tmp 46) rfl _ (k + 1) _ rfl HROW.out ⟨W6.heap.size, 0, none⟩ 1 1 [.int .i64 t1, .bool t2] rfl rfl HNN.out (onesS [(t1, t2)]) (by unfold maxLen; omega) (by omega) (by simp; omega) ?_; intro v' w7 hown' hgrow _ hwhere; obtain ⟨va', vc', rfl⟩ := ownsRow_sl hown'; have HO := Lib.hid hown'; have HG7 := Lib.hid hgrow; clear hown' hgrow hwhere)
              have HB7 : Hid (Below (w.heap.size + 1) W6 w7) := Lib.hid (((Below.refl _ _).alloc (show w.heap.size + 1 ≤ W6.heap.size by omega) _).grown HG7.out (by simp; omega) (fun k e => (hlo.out k e).1))
              go_roundw
              case rel =>
                refine ⟨k + 1, (t1, t2), pre ++ [(c1, c2)], by go_num, by omega, Lib.hid ⟨HI1.out.box.below HB7.out (by omega), ?_, HI1.out.bel.trans (HB7.out.mono (by omega)), by rw [List.length_append, HI1.out.len]; rfl, ?_, ?_, nxtA_ok HX.out⟩, ?_⟩
                · rw [scells_app]
                  exact HO.out
                · rw [HI1.out.eq, HGO.out _ HF.out HX.out, List.append_assoc]; rfl
                · rw [HI1.out.er, HGO.out _ HF.out HX.out]
                · have := HB7.out.size; omega
              case measure => simp [intOf]; omega
          · unfold stepT
            go_wp2_with fail
            obtain ⟨u1, hwA⟩ : ∃ wA, wd.alloc (.cells #[.int .i64 0, .bool false] 46) = wA := ⟨_, rfl⟩
            rw [hwA]
            have hb : Below wd.heap.size wd u1 := by subst hwA; exact bAlloc (bSelf _) _
            have KBS : Hid (Blk u1 wd.heap.size #[.int .i64 0, .bool false]) := by subst hwA; exact Blk.new _ _ _
            clear hwA
            have BSN : Hid (wr.heap.size ≤ wd.heap.size) := Lib.hid T.out.size
            obtain ⟨BS, hBS⟩ : ∃ N, wd.heap.size = N := ⟨_, rfl⟩
            have hbd := Lib.hid (hb.mono T.out.size)
            replace T := Lib.hid (bThen T.out hb)
            clear hb
            rw [hBS] at KBS BSN  ⊢
            clear hBS
            refine ⟨hbd.out, ?_⟩
            clear hbd
            refine WT_one 9 rfl (by kernel_rfl) ?_
            unfold stepT
            go_wp2_with fail
            refine (HRW.out _ (bThen hbw T.out)).mono ?_
            rintro e u2 ⟨rfl, hb⟩
            replace KBS := Lib.hid (KBS.out.to hb)
            have hbd := Lib.hid (hb.mono T.out.size)
            replace T := Lib.hid (bThen T.out hb)
            clear hb
            go_wp2_with fail
            refine ⟨hbd.out, ?_⟩
            clear hbd
            refine WT_yes 10 rfl (by kernel_rfl) (fun _ _ _ _ _ h => h) (by rfl) ?_; apply Exists.intro; refine ⟨fun w1 hb1 => ?_, ?_⟩; (focus ((skip; have hb1 := Lib.hid hb1; go_simp); (try (go_bits; try go_simp)); (try (rw [if_pos (by omega)]; try go_simp)); (first | done | (fail) | (with_reducible rfl) | exact rfl)))
            simp only [Act.put, List.setIfInBounds_toArray, List.set_cons_zero, List.set_cons_succ]
            refine WT_yes 11 rfl (by kernel_rfl) (fun _ _ _ _ _ h => h) (by rfl) ?_; apply Exists.intro; refine ⟨fun w1 hb1 => ?_, ?_⟩; (focus ((skip; have hb1 := Lib.hid hb1; go_simp); (try (go_bits; try go_simp)); (try (rw [if_pos (by omega)]; try go_simp)); (first | done | (fail) | (with_reducible rfl) | exact rfl)))
            simp only [Act.put, List.setIfInBounds_toArray, List.set_cons_zero, List.set_cons_succ]
            refine WT_yes 12 rfl (by kernel_rfl) (fun _ _ _ _ _ h => h) (by rfl) ?_; apply Exists.intro; refine ⟨fun w1 hb1 => ?_, ?_⟩; (focus ((skip; have hb1 := Lib.hid hb1; go_simp); (try (go_bits; try go_simp)); (try (rw [if_pos (by omega)]; try go_simp)); (first | done | (fail) | (with_reducible rfl) | exact rfl)))
            simp only [Act.put, List.setIfInBounds_toArray, List.set_cons_zero, List.set_cons_succ]
            refine WT_one 14 rfl (by kernel_rfl) ?_
            unfold stepT
            obtain ⟨-, kx, fx⟩ := KBS.out
            go_wp2_with fail
            clear kx fx
            obtain ⟨u3, hu⟩ : ∃ u, (u2.setCell ⟨BS, 0, none⟩ (.int .i64 t1)).setCell ⟨BS, 1, none⟩ (.bool t2) = u := ⟨_, rfl⟩
            have hb : Below wr.heap.size u2 u3 := by rw [← hu]; exact ((Below.refl _ _).setCell (p := ⟨BS, 0, none⟩) BSN.out _).setCell (p := ⟨BS, 1, none⟩) BSN.out _
            replace KBS := Lib.hid ((KBS.out.set 0 (.int .i64 t1)).set 1 (.bool t2))
            rw [hu] at KBS ⊢
            clear hu
            replace T := Lib.hid (T.out.trans hb)
            refine ⟨hb, ?_⟩
            clear hb
            refine WT_yes 15 rfl (by kernel_rfl) (fun _ _ _ _ _ h => h) (by rfl) ?_; apply Exists.intro; refine ⟨fun w1 hb1 => ?_, ?_⟩; (focus ((skip; have hb1 := Lib.hid hb1; go_simp); (try (go_bits; try go_simp)); (try (rw [if_pos (by omega)]; try go_simp)); (first | done | (fail) | (with_reducible rfl) | exact rfl)))
            simp only [Act.put, List.setIfInBounds_toArray, List.set_cons_zero, List.set_cons_succ]
            refine WT_done (by kernel_rfl) ?_
            have HI1 := Lib.hid (⟨HI.out.box.to T.out, owns_to HI.out.own T.out, bThen hbw T.out, HI.out.len, HI.out.eq, HI.out.er, HI.out.st⟩ : RunI9 p (s1, sr) ds #[.slice a p.pts.length cap, .int .i64 p.pump, .int .i64 p.on, .int .i64 p.off] k (.slice (some ⟨g, 0, none⟩) (k + 1) vc) (c1, c2) pre w u3)
            have hs5 : wr.heap.size ≤ u3.heap.size := T.out.size
            clear T HRW E0 E1 C0
            cases ok
            · have HX := Lib.hid (HKN.out rfl)
              go_wp2_with fail
              go_ret2
              have hrr : rnR p (s1, sr) ds = 22 := (HRF.out.trans HI1.out.er).trans (congrArg Prod.snd (HEN.out HF.out HX.out))
              have hro : runO p (s1, sr) ds = [] := by unfold runO; exact if_neg (by rw [hrr]; decide)
              refine (HPO.out _ _).2 ⟨none, 0, ?_, ?_, ?_, ?_, fun q hq => by cases hq⟩
              · rw [hrr, hro]; rfl
              · rw [hro]; exact Nat.le_refl _
              · rw [hro]; exact .inl rfl
              · exact HI1.out.bel
            · have HX := Lib.hid (HKS.out rfl)
              obtain ⟨W6, hW6⟩ : ∃ W, u3 = W := ⟨_, rfl⟩
              rw [hW6] at HI1 KBS hs5 ⊢
              clear hW6
              obtain ⟨hS1, k13, -⟩ := KBS.out
              have HROW := Lib.hid (HI1.out.own.alloc (.cells #[.int .i64 t1, .bool t2] 46))
              have HNN := Lib.hid (Blk.new W6 #[.int .i64 t1, .bool t2] 46).news
              have hlo := Lib.hid HI1.out.own.lt
              go_wp2_with (at_builtin; refine wpList_app (w.heap.size + 1) rtSt rfl (.tmp 44) (.tmp 46) rfl _ (k + 1) _ rfl HROW.out ⟨W6.heap.size, 0, none⟩ 1 1 [.int .i64 t1, .bool t2] rfl rfl HNN.out (onesS [(t1, t2)]) (by unfold maxLen; omega) (by omega) (by simp; omega) ?_; intro v' w7 hown' hgrow _ hwhere; obtain ⟨va', vc', rfl⟩ := ownsRow_sl hown'; have HO := Lib.hid hown'; have HG7 := Lib.hid hgrow; clear hown' hgrow hwhere)
              have HB7 : Hid (Below (w.heap.size + 1) W6 w7) := Lib.hid (((Below.refl _ _).alloc (show w.heap.size + 1 ≤ W6.heap.size by omega) _).grown HG7.out (by simp; omega) (fun k e => (hlo.out k e).1))
              go_roundw
              case rel =>
                refine ⟨k + 1, (t1, t2), pre ++ [(c1, c2)], by go_num, by omega, Lib.hid ⟨HI1.out.box.below HB7.out (by omega), ?_, HI1.out.bel.trans (HB7.out.mono (by omega)), by rw [List.length_append, HI1.out.len]; rfl, ?_, ?_, nxtA_ok HX.out⟩, ?_⟩
                · rw [scells_app]
                  exact HO.out
                · rw [HI1.out.eq, HGO.out _ HF.out HX.out, List.append_assoc]; rfl
                · rw [HI1.out.er, HGO.out _ HF.out HX.out]
                · have := HB7.out.size; omega
              case measure => simp [intOf]; omega
      · obtain rfl : n = k := by omega
        have hdl := HN.out
        have hdr : ds.drop n = [] := by rw [← hdl]; exact List.drop_length
        have he1 := HI.out.eq
        have he2 := HI.out.er
        rw [hdr] at he1 he2
        have hrr : rnR p (s1, sr) ds = 0 := HRF.out.trans he2
        have hro : runO p (s1, sr) ds = pre ++ [cur] := by unfold runO; rw [if_pos hrr]; exact he1
        have hll : (pre ++ [cur]).length = n + 1 := by rw [List.length_append, HI.out.len]; rfl
        have HRR := Lib.hid hrr
        have HRO := Lib.hid hro
        have HLL := Lib.hid hll
        clear hdl hdr he1 he2 hrr hro hll
        go_wp2_with fail
        go_ret2
        obtain ⟨a', cap', e, hcp, hrdr, hfr⟩ := Reads.of_row (f := osts (pre ++ [cur])) HI.out.own (fun i hi => scells_get _ i (by have := HLL.out; omega))
        cases e
        refine (HPO.out _ _).2 ⟨some ⟨g, 0, none⟩, vc, ?_, ?_, ?_, HI.out.bel, fun q hq => ?_⟩
        · rw [HRR.out, HRO.out, HLL.out]; rfl
        · rw [HRO.out, HLL.out]; exact hcp
        · rw [HRO.out, HLL.out]; exact hrdr
        · have h1 := hfr q hq
          omega
  · have hre : re = 8 := by rw [HE.out, decide_eq_false (by omega)]; rfl
    have hrr : rnR p (s1, sr) ds = 8 := by rw [HRB.out (by rw [hre]; decide), hre]
    have hro : runO p (s1, sr) ds = [] := by unfold runO; exact if_neg (by rw [hrr]; decide)
    have HRR := Lib.hid hrr
    have HRO := Lib.hid hro
    clear hre hrr hro HRA HRB HNX HE
    go_enter Tryz.func30, Tryz.ntmps30
    go_wp2_with fail
    go_ret2
    refine (HPO.out _ _).2 ⟨none, 0, ?_, ?_, ?_, ?_, fun q hq => by cases hq⟩
    · rw [HRR.out, HRO.out]; rfl
    · rw [HRO.out]; exact Nat.le_refl _
    · rw [HRO.out]; exact .inl rfl
    · exact bAlloc (bAlloc (bSelf w) _) _

end Go.Proofs.YtjfedpblkejmkaaGreat

