/-
  Texts of this claim, in their build order: OA9.
-/
import Derived.Test.YtbpcapcgbnbknaaGreatOne25
import Derived.Test.YtbpcapcgbnbknaaGreatOne3
import Derived.Test.YtbpcapcgbnbknaaGreatOne6
import Derived.Test.YtbpcapcgbnbknaaGreatOne0

namespace Go.Proofs.YtbpcapcgbnbknaaGreat
section
open Go.RowKit
attribute [local go_sem] Oper.semAt_some

theorem rtSt : RowTy Tryz.prog 67 53 2 16 (.agg #[.int .i64 0, .bool false]) := by
  obtain ⟨i, h1, h2, h3, h4⟩ := info_parts (show (Tryz.prog.info? 53).map (fun i => (i.zero, i.size, i.bytes)) = some (some (.agg #[.int .i64 0, .bool false]), 2, 16) by kernel_rfl)
  exact ⟨by kernel_rfl, ⟨i, h1, h2, h3, h4⟩, rfl, by omega, by omega⟩
def scells (l : List OSt) : List Value := l.flatMap fun s => [.int .i64 s.1, .bool s.2]
theorem scells_app (l m : List OSt) : scells (l ++ m) = scells l ++ scells m := by unfold scells; rw [List.flatMap_append]
theorem scells_len (l : List OSt) : (scells l).length = l.length * 2 := by
  induction l with
  | nil => rfl
  | cons p l ih => simp only [scells, List.flatMap_cons, List.length_append, List.length_cons, List.length_nil] at *; omega
theorem scells_get : ∀ (l : List OSt) (i : Nat), i < l.length * 2 → (scells l)[i]? = some (osts l i)
  | [], i, h => by simp at h
  | s :: l, i, h => by
    rcases i with _ | _ | i
    · rfl
    · rfl
    · have e : scells (s :: l) = [.int .i64 s.1, .bool s.2] ++ scells l := rfl
      rw [e, List.getElem?_append_right (by simp), show i + 1 + 1 - [Value.int .i64 s.1, Value.bool s.2].length = i by simp, scells_get l i (by simp only [List.length_cons] at h; omega)]
      unfold osts sg
      rw [show (i + 1 + 1) % 2 = i % 2 by omega, show (i + 1 + 1) / 2 = i / 2 + 1 by omega]
      rfl
theorem onesS (l : List OSt) : ∀ u ∈ scells l, u.oneCell' = true := by
  intro u hu
  obtain ⟨p, _, hp⟩ := List.mem_flatMap.1 hu
  simp only [List.mem_cons, List.not_mem_nil, or_false] at hp
  rcases hp with rfl | rfl <;> rfl

/-- The states after each demand, and the error. -/
def runA (p : Plt) : OSt → List Int → List OSt × Int
  | _, [] => ([], 0)
  | s, d :: ds => if wthn d 0 50 = false then ([], 2) else match nxtA p s d with
    | none => ([], 22)
    | some t => (t :: (runA p t ds).1, (runA p t ds).2)
def runE0 (p : Plt) (s : OSt) (n : Nat) : Int := firstE [opSE p s.1, unl (decide ((n : Int) ≤ 20)) 8]
def rnR (p : Plt) (s : OSt) (ds : List Int) : Int := if runE0 p s ds.length = 0 then (runA p s ds).2 else runE0 p s ds.length
def runO (p : Plt) (s : OSt) (ds : List Int) : List OSt := if rnR p s ds = 0 then s :: (runA p s ds).1 else []
theorem runR_of {p : Plt} {s : OSt} {ds : List Int} (h : runE0 p s ds.length = 0) : rnR p s ds = (runA p s ds).2 := by unfold rnR; rw [if_pos h]
theorem runA_go {p : Plt} {s t : OSt} {ds : List Int} {k : Nat} (hk : k < ds.length) (hf : wthn (gi ds k) 0 50 = true) (hn : nxtA p s (gi ds k) = some t) : runA p s (ds.drop k) = (t :: (runA p t (ds.drop (k + 1))).1, (runA p t (ds.drop (k + 1))).2) := by
  rw [gi_drop ds k hk, runA, if_neg (by rw [hf]; simp), hn]
theorem runA_no {p : Plt} {s : OSt} {ds : List Int} {k : Nat} (hk : k < ds.length) (hf : wthn (gi ds k) 0 50 = false) : runA p s (ds.drop k) = ([], 2) := by
  rw [gi_drop ds k hk, runA, if_pos hf]
theorem runA_end {p : Plt} {s : OSt} {ds : List Int} {k : Nat} (hk : k < ds.length) (hf : wthn (gi ds k) 0 50 = true) (hn : nxtA p s (gi ds k) = none) : runA p s (ds.drop k) = ([], 22) := by
  rw [gi_drop ds k hk, runA, if_neg (by rw [hf]; simp), hn]

/-- A list of states in new memory, with an error. -/
def SPost (l : List OSt) (er : Int) (w : World) (e : Ending) (w' : World) : Prop :=
  ∃ a' c', e = .returned (.tuple #[.slice a' l.length c', .int .i64 er]) ∧ l.length ≤ c' ∧ Reads w' a' (l.length * 2) (osts l) ∧ Below w.heap.size w w' ∧ ∀ q, a' = some q → w.heap.size ≤ q.block

structure RunI9 (p : Plt) (s : OSt) (ds : List Int) (pl : Array Value) (k : Nat) (v : Value) (cur : OSt) (pre : List OSt) (wo wr : World) : Prop where
  box : Blk wr wo.heap.size pl
  own : wr.ownsRow (wo.heap.size + 1) 53 2 v (k + 1) (scells (pre ++ [cur]))
  bel : Below wo.heap.size wo wr
  len : pre.length = k
  eq : s :: (runA p s ds).1 = pre ++ cur :: (runA p cur (ds.drop k)).1
  er : (runA p s ds).2 = (runA p cur (ds.drop k)).2
  st : StOk p cur

set_option maxHeartbeats 6400000 in
set_option maxRecDepth 100000 in
theorem oRunOf_any (p : Plt) (s : OSt) (ds : List Int) (a ad : Option Addr) (cap cd : Nat) (w : World) (hlen : p.pts.length ≤ 1000) (hld : ds.length ≤ maxLen) (hr : Reads w a (p.pts.length * 2) (fracs p.pts)) (hrd : Reads w ad ds.length (ints ds)) :
    Calls Tryz.prog 26 #[.agg (plC p a cap), .agg #[.int .i64 s.1, .bool s.2], .slice ad ds.length cd] w (SPost (runO p s ds) (rnR p s ds) w) := by
  unfold maxLen at hld
  have HO := zH (fun W (hb : Below w.heap.size w W) => openState_any p s a cap W hlen (hr.to hb))
  have HE : Hid (firstE [opSE p s.1, unl (decide ((ds.length : Int) ≤ 20)) 8] = runE0 p s ds.length) := zH rfl
  have HDR := zH hrd
  have HRA : Hid (runE0 p s ds.length = 0 → rnR p s ds = (runA p s ds).2) := zH runR_of
  have HRB : Hid (runE0 p s ds.length ≠ 0 → rnR p s ds = runE0 p s ds.length) := zH (fun h => by unfold rnR; rw [if_neg h])
  have HOK : Hid (runE0 p s ds.length = 0 → PltOk p ∧ StOk p s ∧ ds.length ≤ 20) := zH (fun h => by
    obtain ⟨h1, h2⟩ := firstE2.1 (show firstE [_, _] = 0 from h)
    rw [unlZ (by decide), decide_eq_true_eq] at h2
    exact ⟨(opSE_ok h1).1, (opSE_ok h1).2, by omega⟩)
  have HNX := zH (fun W al cl (hp : PltOk p) (st : OSt) (hs : StOk p st) d (hd : 0 ≤ d ∧ d ≤ 50) hrd => next_any' p st d a al cap cl W hp hs hd hrd)
  have HPO : Hid (∀ e w', SPost (runO p s ds) (rnR p s ds) w e w' ↔ ∃ a' c', e = .returned (.tuple #[.slice a' (runO p s ds).length c', .int .i64 (rnR p s ds)]) ∧ (runO p s ds).length ≤ c' ∧ Reads w' a' ((runO p s ds).length * 2) (osts (runO p s ds)) ∧ Below w.heap.size w w' ∧ ∀ q, a' = some q → w.heap.size ≤ q.block) := zH (fun e w' => Iff.rfl)
  obtain ⟨oe, hoe⟩ : ∃ e, opSE p s.1 = e := ⟨_, rfl⟩
  obtain ⟨re, hre⟩ : ∃ e, runE0 p s ds.length = e := ⟨_, rfl⟩
  obtain ⟨n, hn⟩ : ∃ n, ds.length = n := ⟨_, rfl⟩
  have HN := zH hn
  rw [hoe] at HO HE
  rw [hre] at HE HRA HRB HOK
  rw [hn] at HE HDR HOK hld ⊢
  clear hoe hre hn hr hrd hlen
  obtain ⟨s1, sr⟩ := s
  dsimp only at HO
  by_cases h0 : re = 0
  · subst h0
    obtain ⟨hpk, hsk, hn20⟩ := HOK.out rfl
    have HRF := zH (HRA.out rfl)
    clear HRA HRB HOK
    replace HNX := zH (fun W al cl => HNX.out W al cl hpk)
    have HSK := zH hsk
    clear hsk hpk
    go_enter Tryz.func26, Tryz.ntmps26
    go_wp2_with fail
    refine (HO.out _ (bAlloc (bAlloc (bSelf w) _) _)).mono ?_
    intro e wo hpost
    obtain ⟨al, cl, rfl, hcl, hrdl, hb, hfr⟩ := hpost.ex
    have K1 : Hid (Blk wo (w.heap.size + 1) #[.int .i64 s1, .bool sr]) := zH ((Blk.newAt _ _ _ (by simp)).to hb)
    have HB := zH (bThen (bAlloc (bAlloc (bSelf w) _) _) hb)
    have HRD := zH hrdl
    clear hb hrdl hpost hfr HO
    go_wp2_with (first | (go_at_call 80; refine (oUnless_any _ _ _).mono ?_; rintro e w' ⟨rfl, rfl⟩))
    refine (oFirst2_new _ _ _ _ (by simp)).mono ?_
    rintro e w' ⟨rfl, rfl⟩
    rw [HE.out]
    obtain ⟨W, hW⟩ : ∃ W, (wo.alloc (.cells #[.slice a p.pts.length cap, .int .i64 p.pump, .int .i64 p.on, .int .i64 p.off, .slice al p.pts.length cl] 145)).alloc (.cells #[.int .i64 oe, .int .i64 (unl (decide ((n : Int) ≤ 20)) 8)] 29) = W := ⟨_, rfl⟩
    rw [hW]
    have hsW : wo.heap.size + 2 ≤ W.heap.size := by subst hW; simp
    have K8 : Hid (Blk W wo.heap.size #[.slice a p.pts.length cap, .int .i64 p.pump, .int .i64 p.on, .int .i64 p.off, .slice al p.pts.length cl]) := by subst hW; exact zH ((Blk.new _ _ _).alloc _)
    replace K1 : Hid (Blk W (w.heap.size + 1) #[.int .i64 s1, .bool sr]) := by subst hW; exact zH ((K1.out.alloc _).alloc _)
    have HB1 : Hid (Below wo.heap.size wo W) := by subst hW; exact zH (bAlloc (bAlloc (bSelf _) _) _)
    clear hW
    obtain ⟨hs1, k1, -⟩ := K1.out
    go_wp2_with fail
    obtain ⟨w2, hw2⟩ : ∃ w2, W.alloc (.cells #[.int .i64 s1, .bool sr] 53) = w2 := ⟨_, rfl⟩
    rw [hw2]
    have HI : Hid (RunI9 p (s1, sr) ds #[.slice a p.pts.length cap, .int .i64 p.pump, .int .i64 p.on, .int .i64 p.off, .slice al p.pts.length cl] 0 (.slice (some ⟨W.heap.size, 0, none⟩) 1 1) (s1, sr) [] wo w2) := by
      subst hw2
      refine zH ⟨K8.out.alloc _, ?_, bAlloc HB1.out _, rfl, rfl, rfl, HSK.out⟩
      have := World.ownsRow_lit (base := wo.heap.size + 1) (e := 53) (size := 2) W #[.int .i64 s1, .bool sr] 1 (by omega) (by decide) rfl
      simpa [scells] using this
    have hs2 : wo.heap.size + 2 < w2.heap.size := by subst hw2; simp; omega
    clear hw2 hs1 k1 K1 K8 HB1 hsW
    go_loopw [10, 12, 13, 14, 15, 36] (fun v _ _ _ _ i wr => ∃ (k : Nat) (cur : OSt) (pre : List OSt), i = .int .i64 k ∧ k ≤ n ∧ Hid (RunI9 p (s1, sr) ds #[.slice a p.pts.length cap, .int .i64 p.pump, .int .i64 p.on, .int .i64 p.off, .slice al p.pts.length cl] k v cur pre wo wr) ∧ wo.heap.size + 2 < wr.heap.size) (fun _ _ _ _ _ i _ => n - (intOf i).toNat)
    case atStart => exact ⟨0, _, [], rfl, Nat.zero_le _, HI, hs2⟩
    case round =>
      obtain ⟨k, cur, pre, rfl, hk, HI, hsz⟩ := hrel
      obtain ⟨g, vc, rfl⟩ := ownsRow_succ HI.out.own
      have hbw := HI.out.bel
      by_cases hlt : k < n
      · have hdl : ds.length = n := HN.out
        have hkd : k < ds.length := by omega
        obtain ⟨b, off, rfl, hb, hc⟩ := (HDR.out.to (HB.out)).at (k := k) hlt
        have hb2 : b < wr.heap.size := Nat.lt_of_lt_of_le hb hbw.size
        obtain ⟨d, hd⟩ : ∃ d, gi ds k = d := ⟨_, rfl⟩
        have c0 : wr.cell? ⟨b, off + k, none⟩ = some (.int .i64 d) := ((hbw.cell (p := ⟨b, off + k, none⟩) hb).trans (hc k hlt)).trans (by unfold ints; rw [hd])
        have HGO := zH (fun t (hf : wthn d 0 50 = true) (hn : nxtA p cur d = some t) => runA_go (p := p) (s := cur) hkd (by rw [hd]; exact hf) (by rw [hd]; exact hn))
        have HNO := zH (fun (hf : wthn d 0 50 = false) => runA_no (p := p) (s := cur) hkd (by rw [hd]; exact hf))
        have HEN := zH (fun (hf : wthn d 0 50 = true) (hn : nxtA p cur d = none) => runA_end (p := p) (s := cur) hkd (by rw [hd]; exact hf) (by rw [hd]; exact hn))
        clear hc hd hkd hdl
        have hpl := HI.out.len
        obtain ⟨a', cap', e, hcp, hrdr, hfr⟩ := Reads.of_row (f := osts (pre ++ [cur])) HI.out.own (fun i hi => scells_get _ i (by simp; omega))
        cases e
        obtain ⟨g', off', e, hg, hgc⟩ := hrdr.at (k := 0) (by omega)
        cases e
        have hlast : sg (pre ++ [cur]) k = cur := by unfold sg; rw [← hpl, List.getD_eq_getElem?_getD, List.getElem?_append_right (Nat.le_refl _), Nat.sub_self]; rfl
        obtain ⟨c1, c2⟩ := cur
        have e0 : wr.cell? ⟨g, k * 2, none⟩ = some (.int .i64 c1) := by have := hgc (k * 2) (by omega); rw [osts0, hlast, Nat.zero_add] at this; exact this
        have e1 : wr.cell? ⟨g, k * 2 + 1, none⟩ = some (.bool c2) := by have := hgc (k * 2 + 1) (by omega); rw [osts1, hlast, Nat.zero_add] at this; exact this
        clear hgc hlast hrdr hfr hcp hpl
        obtain ⟨-, k8, -⟩ := HI.out.box
        obtain ⟨m1, hm1⟩ : ∃ m, (if 50 < d then 50 else d) = m := ⟨_, rfl⟩
        obtain ⟨m2, hm2⟩ : ∃ m, (if 0 < m1 then m1 else 0) = m := ⟨_, rfl⟩
        have hm3 : 0 ≤ m2 ∧ m2 ≤ 50 := by constructor <;> (rw [← hm2, ← hm1]; split <;> (try split) <;> omega)
        have HM : Hid (wthn d 0 50 = true → m2 = d) := zH (fun h => by have := wthn_iff.1 h; rw [← hm2, ← hm1]; split <;> (try split) <;> omega)
        have HRW := zH (fun W (hb : Below wo.heap.size wo W) => HNX.out W al cl (c1, c2) HI.out.st m2 hm3 (HRD.out.to hb))
        clear hm3
        have E0 := zH e0
        have E1 := zH e1
        clear e0 e1
        have HTO : Hid (∀ t, nxtA p (c1, c2) m2 = some t → (nxtA p (c1, c2) m2).getD (0, false) = t ∧ (nxtA p (c1, c2) m2).isSome = true) := zH (fun t h => by rw [h]; exact ⟨rfl, rfl⟩)
        obtain ⟨nt, hnt⟩ : ∃ t, (nxtA p (c1, c2) m2).getD (0, false) = t := ⟨_, rfl⟩
        obtain ⟨ok, hok⟩ : ∃ t, (nxtA p (c1, c2) m2).isSome = t := ⟨_, rfl⟩
        rw [hnt, hok] at HRW HTO
        have HKN : Hid (ok = false → nxtA p (c1, c2) m2 = none) := zH (fun h => by rw [← hok] at h; simpa using h)
        have HKS : Hid (ok = true → nxtA p (c1, c2) m2 = some nt) := zH (fun h => by rw [← hok] at h; rw [← hnt]; cases hx : nxtA p (c1, c2) m2 with | none => rw [hx] at h; cases h | some t => rfl)
        clear hnt hok HTO
        obtain ⟨t1, t2⟩ := nt
        dsimp only at HRW
        have hK8 := Nat.lt_of_lt_of_le (Nat.lt_succ_self wo.heap.size) (show wo.heap.size + 1 ≤ wr.heap.size by omega)
        go_wp2_with fail
        refine wp_region_tree (by kernel_rfl) (fun wd hwd => ?_)
        have T := zH hwd
        clear hwd k8
        refine WTq 0 ?_; apply Exists.intro; refine ⟨fun w1 hb1 => ?_, ?_⟩; (focus (((obtain ⟨-, k8, -⟩ := (HI.out.box.to T.out).below hb1 hK8); have hb1 := zH hb1; go_simp); (try (go_bits; try go_simp)); (try (rw [if_pos (by omega)]; try go_simp)); (first | done | (with_reducible rfl) | exact rfl)))
        simp only [Act.put, zzT, zzO, zzS]
        refine WTq 1 ?_; apply Exists.intro; refine ⟨fun w1 hb1 => ?_, ?_⟩; (focus ((have hb1 := zH hb1; go_simp); (try (go_bits; try go_simp)); (try (rw [if_pos (by omega)]; try go_simp)); (first | done | (with_reducible rfl) | exact rfl)))
        simp only [Act.put, zzT, zzO, zzS]
        refine WTq 2 ?_; apply Exists.intro; refine ⟨fun w1 hb1 => ?_, ?_⟩; (focus ((have hb1 := zH hb1; go_simp); (try (go_bits; try go_simp)); (try (rw [if_pos (by omega)]; try go_simp)); (first | done | (with_reducible rfl) | exact rfl)))
        simp only [Act.put, zzT, zzO, zzS]
        refine WTq 3 ?_; apply Exists.intro; refine ⟨fun w1 hb1 => ?_, ?_⟩; (focus ((have hb1 := zH hb1; go_simp); (try (go_bits; try go_simp)); (try (rw [if_pos (by omega)]; try go_simp)); (first | done | (with_reducible rfl) | exact rfl)))
        simp only [Act.put, zzT, zzO, zzS]
        refine WTq 4 ?_; apply Exists.intro; refine ⟨fun w1 hb1 => ?_, ?_⟩; (focus ((have hb1 := zH hb1; go_simp); (try (go_bits; try go_simp)); (try (rw [if_pos (by omega)]; try go_simp)); (first | done | (with_reducible rfl) | exact rfl)))
        simp only [Act.put, zzT, zzO, zzS]
        refine WTq 5 ?_; apply Exists.intro; refine ⟨fun w1 hb1 => ?_, ?_⟩; (focus ((have hb1 := zH hb1; go_simp); (try (go_bits; try go_simp)); (try (rw [if_pos (by omega)]; try go_simp)); (first | done | (with_reducible rfl) | exact rfl)))
        simp only [Act.put, zzT, zzO, zzS]
        refine WTq 6 ?_; apply Exists.intro; refine ⟨fun w1 hb1 => ?_, ?_⟩; (focus (((have e0 := (hb1.cell (p := ⟨g, k * 2, none⟩) hg).trans ((T.out.cell (p := ⟨g, k * 2, none⟩) hg).trans E0.out); have e1 := (hb1.cell (p := ⟨g, k * 2 + 1, none⟩) hg).trans ((T.out.cell (p := ⟨g, k * 2 + 1, none⟩) hg).trans E1.out)); have hb1 := zH hb1; go_simp); (try (go_bits; try go_simp)); (try (rw [if_pos (by omega)]; try go_simp)); (first | done | (with_reducible rfl) | exact rfl)))
        simp only [Act.put, zzT, zzO, zzS]
        refine WTq 7 ?_; apply Exists.intro; refine ⟨fun w1 hb1 => ?_, ?_⟩; (focus ((have hb1 := zH hb1; go_simp); (try (go_bits; try go_simp)); (try (rw [if_pos (by omega)]; try go_simp)); (first | done | (with_reducible rfl) | exact rfl)))
        simp only [Act.put, zzT, zzO, zzS]
        refine WTq 8 ?_; apply Exists.intro; refine ⟨fun w1 hb1 => ?_, ?_⟩; (focus ((have hb1 := zH hb1; go_simp); (try (go_bits; try go_simp)); (try (rw [if_pos (by omega)]; try go_simp)); (first | done | (with_reducible rfl) | exact rfl)))
        simp only [Act.put, zzT, zzO, zzS]
        refine WTq 9 ?_; apply Exists.intro; refine ⟨fun w1 hb1 => ?_, ?_⟩; (focus ((have hb1 := zH hb1; go_simp); (try (go_bits; try go_simp)); (try (rw [if_pos (by omega)]; try go_simp)); (first | done | (with_reducible rfl) | exact rfl)))
        simp only [Act.put, zzT, zzO, zzS]
        refine WT_two 10 14 rfl rfl (by kernel_rfl) ?_ ?_
        focus
          unfold stepT
          go_wp2_with fail
          refine (HRW.out _ (bThen hbw T.out)).mono ?_
          rintro e wa ⟨rfl, hb⟩
          have hbd := zH (hb.mono T.out.size)
          have HA : Hid (Below wr.heap.size wr wa) := zH (bThen T.out hb)
          clear hb
          go_wp2_with fail
          refine ⟨hbd.out, ?_⟩
          clear hbd T
          refine WTq 11 ?_; apply Exists.intro; refine ⟨fun w1 hb1 => ?_, ?_⟩; (focus ((have hb1 := zH hb1; go_simp); (try (go_bits; try go_simp)); (try (rw [if_pos (by omega)]; try go_simp)); (first | done | (with_reducible rfl) | exact rfl)))
          simp only [Act.put, zzT, zzO, zzS]
          refine WTq 12 ?_; apply Exists.intro; refine ⟨fun w1 hb1 => ?_, ?_⟩; (focus ((have hb1 := zH hb1; go_simp); (try (go_bits; try go_simp)); (try (rw [if_pos (by omega)]; try go_simp)); (first | done | (with_reducible rfl) | exact rfl)))
          simp only [Act.put, zzT, zzO, zzS]
          refine WTq 13 ?_; apply Exists.intro; refine ⟨fun w1 hb1 => ?_, ?_⟩; (focus ((have hb1 := zH hb1; go_simp); (try (go_bits; try go_simp)); (try (rw [if_pos (by omega)]; try go_simp)); (first | done | (with_reducible rfl) | exact rfl)))
          simp only [Act.put, zzT, zzO, zzS]
          refine WT_one 14 rfl (by kernel_rfl) ?_
          unfold stepT
          go_wp2_with fail
          obtain ⟨wb, hwb⟩ : ∃ W, wa.alloc (.cells #[.int .i64 0, .bool false] 53) = W := ⟨_, rfl⟩
          rw [hwb]
          have hbd : Below wr.heap.size wa wb := by subst hwb; exact (Below.refl _ _).alloc HA.out.size _
          refine ⟨hbd, ?_⟩
          obtain ⟨bS, hbS⟩ : ∃ b, wa.heap.size = b := ⟨_, rfl⟩
          have KS : Hid (Blk wb bS #[.int .i64 0, .bool false]) := by subst hwb hbS; exact zH (Blk.new _ _ _)
          have hSN : wr.heap.size ≤ bS := by rw [← hbS]; exact HA.out.size
          replace HA : Hid (Below wr.heap.size wr wb) := by subst hwb; exact zH (bAlloc HA.out _)
          rw [hbS]
          clear hbS hwb hbd wa
          obtain ⟨hSl, kS, fS⟩ := KS.out
          refine WT_one 15 rfl (by kernel_rfl) ?_
          unfold stepT
          go_wp2_with fail
          refine ⟨((Below.refl _ _).setCell (p := ⟨bS, 0, none⟩) hSN _).setCell (p := ⟨bS, 1, none⟩) hSN _, ?_⟩
          clear kS fS
          refine WTq 16 ?_; apply Exists.intro; refine ⟨fun w1 hb1 => ?_, ?_⟩; (focus ((have hb1 := zH hb1; go_simp); (try (go_bits; try go_simp)); (try (rw [if_pos (by omega)]; try go_simp)); (first | done | (with_reducible rfl) | exact rfl)))
          simp only [Act.put, zzT, zzO, zzS]
          refine WT_done (by kernel_rfl) ?_
          obtain ⟨W5, hW5⟩ : ∃ W, (wb.setCell ⟨bS, 0, none⟩ (.int .i64 t1)).setCell ⟨bS, 1, none⟩ (.bool t2) = W := ⟨_, rfl⟩
          rw [hW5]
          have K13 : Hid (Blk W5 bS #[.int .i64 t1, .bool t2]) := by subst hW5; exact zH ((KS.out.set 0 _).set 1 _)
          replace HA : Hid (Below wr.heap.size wr W5) := by subst hW5; exact zH ((HA.out.setCell (p := ⟨bS, 0, none⟩) hSN _).setCell (p := ⟨bS, 1, none⟩) hSN _)
          clear hW5 hSl KS wb
        rotate_left
        focus
          unfold stepT
          go_wp2_with fail
          obtain ⟨wb, hwb⟩ : ∃ W, wd.alloc (.cells #[.int .i64 0, .bool false] 53) = W := ⟨_, rfl⟩
          rw [hwb]
          have hbd : Below wr.heap.size wd wb := by subst hwb; exact (Below.refl _ _).alloc T.out.size _
          refine ⟨hbd, ?_⟩
          obtain ⟨bS, hbS⟩ : ∃ b, wd.heap.size = b := ⟨_, rfl⟩
          have KS : Hid (Blk wb bS #[.int .i64 0, .bool false]) := by subst hwb hbS; exact zH (Blk.new _ _ _)
          have hSN : wr.heap.size ≤ bS := by rw [← hbS]; exact T.out.size
          have HA : Hid (Below wr.heap.size wr wb) := by subst hwb; exact zH (bAlloc T.out _)
          rw [hbS]
          clear hbS hwb hbd T wd
          refine WT_one 10 rfl (by kernel_rfl) ?_
          unfold stepT
          go_wp2_with fail
          refine (HRW.out _ (bThen hbw HA.out)).mono ?_
          rintro e wa ⟨rfl, hb⟩
          have hbd := zH (hb.mono HA.out.size)
          replace HA : Hid (Below wr.heap.size wr wa) := zH (bThen HA.out hb)
          replace KS := zH (KS.out.to hb)
          clear hb
          go_wp2_with fail
          refine ⟨hbd.out, ?_⟩
          clear hbd
          refine WTq 11 ?_; apply Exists.intro; refine ⟨fun w1 hb1 => ?_, ?_⟩; (focus ((have hb1 := zH hb1; go_simp); (try (go_bits; try go_simp)); (try (rw [if_pos (by omega)]; try go_simp)); (first | done | (with_reducible rfl) | exact rfl)))
          simp only [Act.put, zzT, zzO, zzS]
          refine WTq 12 ?_; apply Exists.intro; refine ⟨fun w1 hb1 => ?_, ?_⟩; (focus ((have hb1 := zH hb1; go_simp); (try (go_bits; try go_simp)); (try (rw [if_pos (by omega)]; try go_simp)); (first | done | (with_reducible rfl) | exact rfl)))
          simp only [Act.put, zzT, zzO, zzS]
          refine WTq 13 ?_; apply Exists.intro; refine ⟨fun w1 hb1 => ?_, ?_⟩; (focus ((have hb1 := zH hb1; go_simp); (try (go_bits; try go_simp)); (try (rw [if_pos (by omega)]; try go_simp)); (first | done | (with_reducible rfl) | exact rfl)))
          simp only [Act.put, zzT, zzO, zzS]
          obtain ⟨hSl, kS, fS⟩ := KS.out
          refine WT_one 15 rfl (by kernel_rfl) ?_
          unfold stepT
          go_wp2_with fail
          refine ⟨((Below.refl _ _).setCell (p := ⟨bS, 0, none⟩) hSN _).setCell (p := ⟨bS, 1, none⟩) hSN _, ?_⟩
          clear kS fS
          refine WTq 16 ?_; apply Exists.intro; refine ⟨fun w1 hb1 => ?_, ?_⟩; (focus ((have hb1 := zH hb1; go_simp); (try (go_bits; try go_simp)); (try (rw [if_pos (by omega)]; try go_simp)); (first | done | (with_reducible rfl) | exact rfl)))
          simp only [Act.put, zzT, zzO, zzS]
          refine WT_done (by kernel_rfl) ?_
          obtain ⟨W5, hW5⟩ : ∃ W, (wa.setCell ⟨bS, 0, none⟩ (.int .i64 t1)).setCell ⟨bS, 1, none⟩ (.bool t2) = W := ⟨_, rfl⟩
          rw [hW5]
          have K13 : Hid (Blk W5 bS #[.int .i64 t1, .bool t2]) := by subst hW5; exact zH ((KS.out.set 0 _).set 1 _)
          replace HA : Hid (Below wr.heap.size wr W5) := by subst hW5; exact zH ((HA.out.setCell (p := ⟨bS, 0, none⟩) hSN _).setCell (p := ⟨bS, 1, none⟩) hSN _)
          clear hW5 hSl KS wa
        all_goals
          have HI1 := zH (⟨HI.out.box.to HA.out, owns_to HI.out.own HA.out, bThen hbw HA.out, HI.out.len, HI.out.eq, HI.out.er, HI.out.st⟩ : RunI9 p (s1, sr) ds #[.slice a p.pts.length cap, .int .i64 p.pump, .int .i64 p.on, .int .i64 p.off, .slice al p.pts.length cl] k (.slice (some ⟨g, 0, none⟩) (k + 1) vc) (c1, c2) pre wo W5)
          have hs5 : wr.heap.size ≤ W5.heap.size := HA.out.size
          clear hSN HA HRW E0 E1
          cases hf : wthn d 0 50
          · have HF := zH hf
            clear hf
            go_wp2_with (first | (go_at_call 82; refine (isFlow_any _ _).mono ?_; rintro e w' ⟨rfl, rfl⟩; rw [HF.out]) | (go_at_call 80; refine (oUnless_any _ _ _).mono ?_; rintro e w' ⟨rfl, rfl⟩))
            refine (oFirst2_new _ _ _ _ (by simp)).mono ?_
            rintro e w' ⟨rfl, rfl⟩
            rw [show firstE [unl false 2, unl ok 22] = 2 from rfl]
            go_wp2_with fail
            go_ret2
            have hrr : rnR p (s1, sr) ds = 2 := (HRF.out.trans HI1.out.er).trans (congrArg Prod.snd (HNO.out HF.out))
            have hro : runO p (s1, sr) ds = [] := by unfold runO; exact if_neg (by rw [hrr]; decide)
            refine (HPO.out _ _).2 ⟨none, 0, ?_, ?_, ?_, ?_, fun q hq => by cases hq⟩
            · rw [hrr, hro]; rfl
            · rw [hro]; exact Nat.le_refl _
            · rw [hro]; exact .inl rfl
            · exact bAlloc (bThen HB.out HI1.out.bel) _
          · have HF := zH hf
            have hmd := HM.out hf
            clear hf
            cases ok
            · have HX := zH (HKN.out rfl)
              rw [hmd] at HX
              go_wp2_with (first | (go_at_call 82; refine (isFlow_any _ _).mono ?_; rintro e w' ⟨rfl, rfl⟩; rw [HF.out]) | (go_at_call 80; refine (oUnless_any _ _ _).mono ?_; rintro e w' ⟨rfl, rfl⟩))
              refine (oFirst2_new _ _ _ _ (by simp)).mono ?_
              rintro e w' ⟨rfl, rfl⟩
              rw [show firstE [unl true 2, unl false 22] = 22 from rfl]
              go_wp2_with fail
              go_ret2
              have hrr : rnR p (s1, sr) ds = 22 := (HRF.out.trans HI1.out.er).trans (congrArg Prod.snd (HEN.out HF.out HX.out))
              have hro : runO p (s1, sr) ds = [] := by unfold runO; exact if_neg (by rw [hrr]; decide)
              refine (HPO.out _ _).2 ⟨none, 0, ?_, ?_, ?_, ?_, fun q hq => by cases hq⟩
              · rw [hrr, hro]; rfl
              · rw [hro]; exact Nat.le_refl _
              · rw [hro]; exact .inl rfl
              · exact bAlloc (bThen HB.out HI1.out.bel) _
            · have HX := zH (HKS.out rfl)
              rw [hmd] at HX
              clear hmd
              go_wp2_with (first | (go_at_call 82; refine (isFlow_any _ _).mono ?_; rintro e w' ⟨rfl, rfl⟩; rw [HF.out]) | (go_at_call 80; refine (oUnless_any _ _ _).mono ?_; rintro e w' ⟨rfl, rfl⟩))
              refine (oFirst2_new _ _ _ _ (by simp)).mono ?_
              rintro e w' ⟨rfl, rfl⟩
              rw [show firstE [unl true 2, unl true 22] = 0 from rfl]
              obtain ⟨W6, hW6⟩ : ∃ W, W5.alloc (.cells #[.int .i64 (unl true 2), .int .i64 (unl true 22)] 29) = W := ⟨_, rfl⟩
              rw [hW6]
              replace K13 : Hid (Blk W6 bS #[.int .i64 t1, .bool t2]) := by subst hW6; exact zH (K13.out.alloc _)
              replace HI1 : Hid (RunI9 p (s1, sr) ds #[.slice a p.pts.length cap, .int .i64 p.pump, .int .i64 p.on, .int .i64 p.off, .slice al p.pts.length cl] k (.slice (some ⟨g, 0, none⟩) (k + 1) vc) (c1, c2) pre wo W6) := by
                subst hW6
                exact zH ⟨HI1.out.box.alloc _, HI1.out.own.alloc _, bAlloc HI1.out.bel _, HI1.out.len, HI1.out.eq, HI1.out.er, HI1.out.st⟩
              replace hs5 : wr.heap.size ≤ W6.heap.size := by subst hW6; simp; omega
              clear hW6
              obtain ⟨hS1, k13, -⟩ := K13.out
              have HROW := zH (HI1.out.own.alloc (.cells #[.int .i64 t1, .bool t2] 53))
              have HNN := zH (Blk.new W6 #[.int .i64 t1, .bool t2] 53).news
              have hlo := zH HI1.out.own.lt
              go_wp2_with (at_builtin; refine wpList_app (wo.heap.size + 1) rtSt rfl (.tmp 64) (.tmp 66) rfl _ (k + 1) _ rfl HROW.out ⟨W6.heap.size, 0, none⟩ 1 1 [.int .i64 t1, .bool t2] rfl rfl HNN.out (onesS [(t1, t2)]) (by unfold maxLen; omega) (by omega) (by simp; omega) ?_; intro v' w7 hown' hgrow _ hwhere; obtain ⟨va', vc', rfl⟩ := ownsRow_sl hown'; have HO := zH hown'; have HG7 := zH hgrow; clear hown' hgrow hwhere)
              have HB7 : Hid (Below (wo.heap.size + 1) W6 w7) := zH (((Below.refl _ _).alloc (show wo.heap.size + 1 ≤ W6.heap.size by omega) _).grown HG7.out (by simp; omega) (fun k e => (hlo.out k e).1))
              go_roundw
              case rel =>
                refine ⟨k + 1, (t1, t2), pre ++ [(c1, c2)], by go_num, by omega, zH ⟨HI1.out.box.below HB7.out (by omega), ?_, HI1.out.bel.trans (HB7.out.mono (by omega)), by rw [List.length_append, HI1.out.len]; rfl, ?_, ?_, nxtA_ok HX.out⟩, ?_⟩
                · rw [scells_app]
                  exact HO.out
                · rw [HI1.out.eq, HGO.out _ HF.out HX.out, List.append_assoc]; rfl
                · rw [HI1.out.er, HGO.out _ HF.out HX.out]
                · have := HB7.out.size; omega
              case measure => simp [intOf]; omega
      · obtain rfl : n = k := by omega
        have hdl := HN.out
        have hdr : ds.drop n = [] := by rw [← hdl]; exact List.drop_length
        have he1 := HI.out.eq
        have he2 := HI.out.er
        rw [hdr] at he1 he2
        have hrr : rnR p (s1, sr) ds = 0 := HRF.out.trans he2
        have hro : runO p (s1, sr) ds = pre ++ [cur] := by unfold runO; rw [if_pos hrr]; exact he1
        have hll : (pre ++ [cur]).length = n + 1 := by rw [List.length_append, HI.out.len]; rfl
        have HRR := zH hrr
        have HRO := zH hro
        have HLL := zH hll
        clear hdl hdr he1 he2 hrr hro hll
        go_wp2_with fail
        go_ret2
        obtain ⟨a', cap', e, hcp, hrdr, hfr⟩ := Reads.of_row (f := osts (pre ++ [cur])) HI.out.own (fun i hi => scells_get _ i (by have := HLL.out; omega))
        cases e
        refine (HPO.out _ _).2 ⟨some ⟨g, 0, none⟩, vc, ?_, ?_, ?_, bThen HB.out HI.out.bel, fun q hq => ?_⟩
        · rw [HRR.out, HRO.out, HLL.out]; rfl
        · rw [HRO.out, HLL.out]; exact hcp
        · rw [HRO.out, HLL.out]; exact hrdr
        · have h1 := hfr q hq
          have h2 := HB.out.size
          omega
  · have h0' : (re != 0) = true := by simpa using h0
    have hrr := HRB.out h0
    have hro : runO p (s1, sr) ds = [] := by unfold runO; exact if_neg (by rw [hrr]; exact h0)
    have HRR := zH hrr
    have HRO := zH hro
    clear h0 hrr hro HOK HRA HRB HNX
    go_enter Tryz.func26, Tryz.ntmps26
    go_wp2_with fail
    refine (HO.out _ (bAlloc (bAlloc (bSelf w) _) _)).mono ?_
    intro e wo hpost
    obtain ⟨al, cl, rfl, hcl, hrdl, hb, hfr⟩ := hpost.ex
    have HB := zH (bThen (bAlloc (bAlloc (bSelf w) _) _) hb)
    clear hb hrdl hpost hfr HO
    go_wp2_with (first | (go_at_call 80; refine (oUnless_any _ _ _).mono ?_; rintro e w' ⟨rfl, rfl⟩))
    refine (oFirst2_new _ _ _ _ (by simp)).mono ?_
    rintro e w' ⟨rfl, rfl⟩
    rw [HE.out]
    go_wp2_with fail
    go_ret2
    refine (HPO.out _ _).2 ⟨none, 0, ?_, ?_, ?_, ?_, fun q hq => by cases hq⟩
    · rw [HRR.out, HRO.out]; rfl
    · rw [HRO.out]; exact Nat.le_refl _
    · rw [HRO.out]; exact .inl rfl
    · exact bAlloc (bAlloc HB.out _) _
end
end Go.Proofs.YtbpcapcgbnbknaaGreat
