/-
  Texts of this claim, in their build order: OA3 OP7.
-/
import Derived.Test.YtjfedpblkejmkaaGreatVal19
import Derived.Test.YtjfedpblkejmkaaGreatVal18

/-
  CheckPlant: the index and the error of a plant.
-/
namespace Go.Proofs.YtjfedpblkejmkaaGreat
open Go.RowKit
attribute [local go_sem] Oper.semAt_some

def ordB (l : List (Int × Int)) (k : Nat) : Bool := if k = 0 then (fg l 0).1 == 0 else decide ((fg l (k - 1)).1 < (fg l k).1) && decide ((fg l (k - 1)).2 < (fg l k).2)
def ptE (l : List (Int × Int)) (k : Nat) : Int := firstE [unl (wthn (fg l k).1 0 200 && wthn (fg l k).2 0 1000) 2, unl (ordB l k) 9]
/-- The index and the error of a plant. -/
def pltE (p : Plt) : Int := firstE [unl (wthn p.pump 0 50 && wthn p.on 0 1000 && wthn p.off 0 1000) 2, unl (decide (p.on < p.off)) 9]
def chP (p : Plt) : Int × Int := if fewE p.pts.length ≠ 0 then (0, fewE p.pts.length) else if (eachR (ptE p.pts) 0 p.pts.length).2 ≠ 0 then eachR (ptE p.pts) 0 p.pts.length else (0, pltE p)
abbrev plC (p : Plt) (a : Option Addr) (cap : Nat) : Array Value := #[.slice a p.pts.length cap, .int .i64 p.pump, .int .i64 p.on, .int .i64 p.off]

set_option maxHeartbeats 1600000 in
set_option maxRecDepth 100000 in
theorem pt1_any (l : List (Int × Int)) (a : Option Addr) (cap : Nat) (x1 x2 x3 : Value) (k bp : Nat) (w : World) (hk : k < l.length) (hlen : l.length ≤ 100000) (hp : Blk w bp #[.slice a l.length cap, x1, x2, x3]) (hr : Reads w a (l.length * 2) (fracs l)) :
    Calls Tryz.prog 133 #[.int .i64 k, .agg #[.int .i64 (fg l k).1, .int .i64 (fg l k).2], .pointer (some ⟨bp, 0, none⟩)] w fun e w' => e = .returned (.int .i64 (ptE l k)) ∧ Below w.heap.size w w' := by
  have HE : Hid (firstE [unl (wthn (fg l k).1 0 200 && wthn (fg l k).2 0 1000) 2, unl (ordB l k) 9] = ptE l k) := Lib.hid rfl
  obtain ⟨v, hv⟩ : ∃ v, (fg l k).1 = v := ⟨_, rfl⟩
  obtain ⟨q, hq⟩ : ∃ q, (fg l k).2 = q := ⟨_, rfl⟩
  obtain ⟨pe, hpe⟩ : ∃ e, ptE l k = e := ⟨_, rfl⟩
  rw [hpe] at HE ⊢
  clear hpe
  rcases k with _ | j
  · have ho : ordB l 0 = (v == 0) := by unfold ordB; rw [if_pos rfl, hv]
    rw [hv, hq, ho] at HE
    rw [hv, hq]
    clear hv hq ho hk hp hr
    cases hz : v == 0
    all_goals
      rw [hz] at HE
      cases hvo : wthn v 0 200
      all_goals
        rw [hvo] at HE
        have HV := Lib.hid hvo
        clear hvo
        go_enter Tryz.func133, Tryz.ntmps133
        go_wp2_with (first | (go_at_call 134; refine (isVolume_any _ _).mono ?_; rintro e w' ⟨rfl, rfl⟩; rw [HV.out]) | (go_at_call 135; refine (isPressure_any _ _).mono ?_; rintro e w' ⟨rfl, rfl⟩) | (go_at_call 94; refine (oUnless_any _ _ _).mono ?_; rintro e w' ⟨rfl, rfl⟩) | (go_at_call 92; refine (oFirst2_new _ _ _ _ (by simp)).mono ?_; rintro e w' ⟨rfl, rfl⟩))
        go_ret
        exact ⟨ret_int (by rw [← HE.out]; first | rfl | simp), bAlloc (bAlloc (bSelf w) _) _⟩
  · have hv' := hv
    obtain ⟨v', hv2⟩ : ∃ v, (fg l j).1 = v := ⟨_, rfl⟩
    obtain ⟨q', hq2⟩ : ∃ q, (fg l j).2 = q := ⟨_, rfl⟩
    have ho : ordB l (j + 1) = (decide (v' < v) && decide (q' < q)) := by unfold ordB; rw [if_neg (by omega), Nat.add_sub_cancel, hv, hq, hv2, hq2]
    rw [hv, hq, ho] at HE
    rw [hv, hq]
    obtain ⟨b, off, rfl, hb, hc⟩ := hr.at (k := j * 2) (by omega)
    have c0 : w.cell? ⟨b, off + j * 2, none⟩ = some (.int .i64 v') := by have := hc (j * 2) (by omega); rw [fracs0, hv2] at this; exact this
    have c1 : w.cell? ⟨b, off + j * 2 + 1, none⟩ = some (.int .i64 q') := by have := hc (j * 2 + 1) (by omega); rw [fracs1, hq2] at this; exact this
    obtain ⟨hbp, kp, -⟩ := hp
    have hj : j < l.length := by omega
    obtain ⟨n, hn⟩ : ∃ n, l.length = n := ⟨_, rfl⟩
    rw [hn] at hj hlen kp
    clear hv hq hv' hv2 hq2 ho hr hc hn hk
    cases hz : decide (v' < v)
    all_goals
      rw [hz] at HE
      have HZ := Lib.hid hz
      cases hvo : wthn v 0 200
      all_goals
        rw [hvo] at HE
        have HV := Lib.hid hvo
        clear hvo
        go_enter Tryz.func133, Tryz.ntmps133
        go_wp2_with (first | (go_at_call 134; refine (isVolume_any _ _).mono ?_; rintro e w' ⟨rfl, rfl⟩; rw [HV.out]) | (go_at_call 135; refine (isPressure_any _ _).mono ?_; rintro e w' ⟨rfl, rfl⟩) | (go_at_call 94; refine (oUnless_any _ _ _).mono ?_; rintro e w' ⟨rfl, rfl⟩) | (go_at_call 92; refine (oFirst2_new _ _ _ _ (by simp)).mono ?_; rintro e w' ⟨rfl, rfl⟩))
        go_ret
        exact ⟨ret_int (by rw [← HE.out]; first | rfl | simp), bAlloc (bAlloc (bAlloc (bSelf w) _) _) _⟩

set_option maxHeartbeats 1600000 in
set_option maxRecDepth 100000 in
theorem CheckPlant_any (p : Plt) (a : Option Addr) (cap : Nat) (w : World) (hlen : p.pts.length ≤ 100000) (hr : Reads w a (p.pts.length * 2) (fracs p.pts)) :
    Calls Tryz.prog 59 #[.agg (plC p a cap)] w fun e w' => e = .returned (.tuple #[.int .i64 (chP p).1, .int .i64 (chP p).2]) ∧ Below w.heap.size w w' := by
  have HEA := Lib.hid (fun W bp (hp : Blk W bp (plC p a cap)) (hb : Below w.heap.size w W) => eachPt_any p.pts a cap 133 #[.pointer (some ⟨bp, 0, none⟩)] W (ptE p.pts) (fun _ W' => Blk W' bp (plC p a cap) ∧ Below w.heap.size w W') hlen (by intro args w; go_simp) ⟨hp, hb⟩ (fun _ W' _ h => hr.to h.2) (fun _ W' o h => ⟨h.1.alloc o, bAlloc h.2 o⟩)
    (fun k W' hk h => (pt1_any p.pts a cap _ _ _ k bp W' hk hlen h.1 (hr.to h.2)).mono fun e w'' ⟨he, hb'⟩ => ⟨he, h.1.to hb', bThen h.2 hb'⟩))
  have H1 : Hid (chP p = if fewE p.pts.length ≠ 0 then (0, fewE p.pts.length) else if (eachR (ptE p.pts) 0 p.pts.length).2 ≠ 0 then eachR (ptE p.pts) 0 p.pts.length else (0, pltE p)) := Lib.hid rfl
  have H2 : Hid (firstE [unl (wthn p.pump 0 50 && wthn p.on 0 1000 && wthn p.off 0 1000) 2, unl (decide (p.on < p.off)) 9] = pltE p) := Lib.hid rfl
  obtain ⟨ch, hch⟩ : ∃ c, chP p = c := ⟨_, rfl⟩
  rw [hch] at H1 ⊢
  clear hch
  obtain ⟨pe, hpe⟩ : ∃ e, pltE p = e := ⟨_, rfl⟩
  rw [hpe] at H1 H2
  clear hpe
  obtain ⟨er, her⟩ : ∃ e, eachR (ptE p.pts) 0 p.pts.length = e := ⟨_, rfl⟩
  rw [her] at H1 HEA
  clear her
  obtain ⟨pts, pump, on, off⟩ := p
  dsimp only [plC] at *
  obtain ⟨n, hn⟩ : ∃ n, pts.length = n := ⟨_, rfl⟩
  rw [hn] at HEA H1 hlen ⊢
  obtain ⟨fe, hfe⟩ : ∃ e, fewE (n : Int) = e := ⟨_, rfl⟩
  have HFE := Lib.hid hfe
  rw [hfe] at H1
  clear hfe hr hn
  obtain ⟨e1, e2⟩ := er
  dsimp only at H1 HEA
  by_cases hf : fe = 0
  · by_cases he : e2 = 0
    · have hc : ch = (0, pe) := by rw [H1.out, if_neg (by simpa using hf), if_neg (by simpa using he)]
      subst hc
      clear H1
      subst he
      cases hv1 : wthn pump 0 50
      all_goals cases hv2 : wthn on 0 1000
      all_goals
        rw [hv1, hv2] at H2
        have HV1 := Lib.hid hv1
        have HV2 := Lib.hid hv2
        clear hv1 hv2
        go_enter Tryz.func59, Tryz.ntmps59
        go_wp2_with fail
        refine (oFew_any _ _).mono ?_
        rintro e w1 ⟨rfl, hb⟩
        rw [HFE.out, hf]
        have K0 : Hid (Blk w1 w.heap.size #[.slice a n cap, .int .i64 pump, .int .i64 on, .int .i64 off]) := Lib.hid ((Blk.new _ _ _).to hb)
        have HB := Lib.hid (bThen (bAlloc (bSelf w) _) hb)
        clear hb
        obtain ⟨-, k0, -⟩ := K0.out
        go_wp2_with fail
        refine (HEA.out w1 _ K0.out HB.out).mono ?_
        rintro e w2 ⟨rfl, kk, -, ⟨hk0, hbb⟩, -⟩
        replace K0 := Lib.hid hk0
        replace HB := Lib.hid hbb
        clear hk0 hbb k0
        obtain ⟨-, k0, -⟩ := K0.out
        go_wp2_with fail
        refine wp_region_quiet_tail 20 (fun w' => Below (World.heap w2).size (w2) w') (by kernel_rfl) (by kernel_rfl) (Below.refl _ _).drew ?_
        simp only [List.take_succ_cons, List.take_zero, List.drop_succ_cons, List.drop_zero]
        refine WQ.out ?_
        repeat (first | (refine WQ_no (by rfl) ?_; (simp only [Act.put, List.setIfInBounds_toArray, List.set_cons_zero, List.set_cons_succ])) | (refine WQ_yes (by rfl) ?_; apply Exists.intro; refine ⟨fun w1 hb1 => ?_, ?_⟩; (focus (((obtain ⟨-, k0, -⟩ := K0.out.to hb1); have hb1 := Lib.hid hb1; go_simp); (try (go_bits; try go_simp)); (try (rw [if_pos (by omega)]; try go_simp)); (first | done | ((first | (go_at_call 108; refine (isFlow_any _ _).mono ?_; rintro e w' ⟨rfl, rfl⟩; exact ⟨by rw [HV1.out], hb1.out⟩) | (go_at_call 135; refine (isPressure_any _ _).mono ?_; rintro e w' ⟨rfl, rfl⟩; first | exact ⟨by rw [HV2.out], hb1.out⟩ | exact ⟨rfl, hb1.out⟩) | (go_at_call 94; refine (oUnless_any _ _ _).mono ?_; rintro e w' ⟨rfl, rfl⟩; exact ⟨rfl, hb1.out⟩))) | (with_reducible rfl) | exact rfl))); (simp only [Act.put, List.setIfInBounds_toArray, List.set_cons_zero, List.set_cons_succ])))
        refine WQ_nil ?_
        intro w1 hb1
        replace HB := Lib.hid (bThen HB.out hb1)
        clear hb1
        go_wp2_with fail
        refine (oFirst2_new _ _ _ _ (by simp)).mono ?_
        rintro e w' ⟨rfl, rfl⟩
        go_wp2_with fail
        go_ret2
        exact ⟨tuple2_eq rfl (by rw [← H2.out]; first | rfl | simp), bAlloc HB.out _⟩
    · have hc : ch = (e1, e2) := by rw [H1.out, if_neg (by simpa using hf), if_pos he]
      subst hc
      clear H1 H2
      have he' : (e2 != 0) = true := by simpa using he
      clear he
      go_enter Tryz.func59, Tryz.ntmps59
      go_wp2_with fail
      refine (oFew_any _ _).mono ?_
      rintro e w1 ⟨rfl, hb⟩
      rw [HFE.out, hf]
      have K0 : Hid (Blk w1 w.heap.size #[.slice a n cap, .int .i64 pump, .int .i64 on, .int .i64 off]) := Lib.hid ((Blk.new _ _ _).to hb)
      have HB := Lib.hid (bThen (bAlloc (bSelf w) _) hb)
      clear hb
      obtain ⟨-, k0, -⟩ := K0.out
      go_wp2_with fail
      refine (HEA.out w1 _ K0.out HB.out).mono ?_
      rintro e w2 ⟨rfl, kk, -, ⟨hk0, hbb⟩, -⟩
      replace HB := Lib.hid hbb
      clear hk0 hbb k0
      go_wp2_with fail
      go_ret2
      exact ⟨rfl, HB.out⟩
  · have hc : ch = (0, fe) := by rw [H1.out, if_pos hf]
    subst hc
    clear H1 H2
    have hf' : (fe != 0) = true := by simpa using hf
    have HF := Lib.hid hf
    clear hf
    go_enter Tryz.func59, Tryz.ntmps59
    go_wp2_with fail
    refine (oFew_any _ _).mono ?_
    rintro e w1 ⟨rfl, hb⟩
    rw [HFE.out]
    have HB := Lib.hid (bThen (bAlloc (bSelf w) _) hb)
    clear hb
    go_wp2_with fail
    go_ret2
    exact ⟨rfl, HB.out⟩

end Go.Proofs.YtjfedpblkejmkaaGreat

/-
  Plain laws of the lines of a valve: they rise or stand.
-/
namespace Go.Proofs.YtjfedpblkejmkaaGreat
open Go.RowKit

/-- Points of a line that does not fall: at most 8, the first at 0. -/
structure LinOk (l : List (Int × Int)) : Prop where
  two : 2 ≤ l.length
  few : l.length ≤ 8
  v0 : (fg l 0).1 = 0
  vol : ∀ k, k < l.length → 0 ≤ (fg l k).1 ∧ (fg l k).1 ≤ 1000
  prs : ∀ k, k < l.length → 0 ≤ (fg l k).2 ∧ (fg l k).2 ≤ 1000
  up : ∀ k, k + 1 < l.length → (fg l k).1 < (fg l (k + 1)).1 ∧ (fg l k).2 ≤ (fg l (k + 1)).2
theorem LinOk.mono {l : List (Int × Int)} (h : LinOk l) {i : Nat} : ∀ {d : Nat}, i + d < l.length → (fg l i).1 + d ≤ (fg l (i + d)).1 ∧ (fg l i).2 ≤ (fg l (i + d)).2
  | 0, _ => by simp
  | d + 1, hd => by
    have h1 := h.mono (i := i) (d := d) (by omega)
    have h2 := h.up (i + d) (by omega)
    rw [show i + (d + 1) = i + d + 1 by omega]
    omega
theorem LinOk.leP {l : List (Int × Int)} (h : LinOk l) {i j : Nat} (hij : i ≤ j) (hj : j < l.length) : (fg l i).2 ≤ (fg l j).2 := by
  obtain ⟨d, rfl⟩ := Nat.exists_eq_add_of_le hij
  have := (h.mono (i := i) (d := d) hj).2; omega
theorem ptI_ltL {l : List (Int × Int)} {v : Int} (h : LinOk l) (hv : v ≤ capV l) : ptI l v < l.length := by
  rcases Nat.lt_or_ge (ptI l v) l.length with h1 | h1
  · exact h1
  · have h2 := ixF_no (fun j => decide (v ≤ (fg l j).1)) l.length 0 (l.length - 1) (Nat.zero_le _) (by have := h.two; unfold ptI at h1; omega)
    have h3 : ¬ v ≤ (fg l (l.length - 1)).1 := of_decide_eq_false h2
    unfold capV at hv
    omega
theorem ptI_geL {l : List (Int × Int)} {v : Int} (h : LinOk l) (hv : v ≤ capV l) : v ≤ (fg l (ptI l v)).1 := by
  have := ixF_yes (fun j => decide (v ≤ (fg l j).1)) l.length 0 (by have := ptI_ltL h hv; unfold ptI at this; omega)
  exact of_decide_eq_true this
theorem ptI_posL {l : List (Int × Int)} {v : Int} (h : LinOk l) (h0 : 0 < v) (hv : v ≤ capV l) : 0 < ptI l v := by
  rcases Nat.eq_zero_or_pos (ptI l v) with e | e
  · have := ptI_geL h hv
    rw [e, h.v0] at this; omega
  · exact e
theorem ptI_zeroL {l : List (Int × Int)} (h : LinOk l) : ptI l 0 = 0 := by
  unfold ptI
  obtain ⟨m, hm⟩ : ∃ m, l.length = m + 1 := ⟨l.length - 1, by have := h.two; omega⟩
  rw [hm, ixF, if_pos]
  rw [h.v0]; rfl
/-- What a number above 0 lies between. -/
theorem seg_bdL {a b : Int × Int} {v : Int} (h1 : a.1 < v) (h2 : v ≤ b.1) (h3 : a.2 ≤ b.2) : 0 < (segQ a b v).2 ∧ a.2 * (segQ a b v).2 ≤ (segQ a b v).1 ∧ (segQ a b v).1 ≤ b.2 * (segQ a b v).2 := by
  unfold segQ
  dsimp only
  have p1 : 0 ≤ (b.2 - a.2) * (v - a.1) := Int.mul_nonneg (by omega) (by omega)
  have p2 : 0 ≤ (b.2 - a.2) * (b.1 - v) := Int.mul_nonneg (by omega) (by omega)
  have e : b.2 * (b.1 - a.1) - (a.2 * (b.1 - a.1) + (b.2 - a.2) * (v - a.1)) = (b.2 - a.2) * (b.1 - v) := by grind
  exact ⟨by omega, by omega, by omega⟩
/-- The value is that of a quotient with these parts. -/
theorem prQ_segL {l : List (Int × Int)} {v : Int} (_h : LinOk l) (h0 : 0 < v) (hv : v ≤ capV l) :
    (prQ l v).1 * (segQ (fg l (ptI l v - 1)) (fg l (ptI l v)) v).2 = (segQ (fg l (ptI l v - 1)) (fg l (ptI l v)) v).1 * (prQ l v).2 := by
  unfold prQ
  split
  · rename_i e
    unfold segQ
    dsimp only
    generalize fg l (ptI l v - 1) = a at *
    generalize fg l (ptI l v) = b at *
    subst e
    grind
  · rfl
theorem prQ_zeroL {l : List (Int × Int)} (h : LinOk l) : prQ l 0 = ((fg l 0).2, 1) := by
  unfold prQ
  rw [ptI_zeroL h, if_pos h.v0]
theorem prQ_denL {l : List (Int × Int)} {v : Int} (h : LinOk l) (h0 : 0 ≤ v) (hv : v ≤ capV l) : 1 ≤ (prQ l v).2 ∧ (prQ l v).2 ≤ 1000 ∧ 0 ≤ (prQ l v).1 ∧ (prQ l v).1 ≤ 1000 * (prQ l v).2 := by
  have hi := ptI_ltL h hv
  have hp := h.prs _ hi
  unfold prQ
  split
  · dsimp only; omega
  · rename_i e
    have hpos : 0 < ptI l v := by
      rcases Nat.eq_zero_or_pos (ptI l v) with e2 | e2
      · have := ptI_geL h hv
        rw [e2, h.v0] at this
        have : v = 0 := by omega
        subst this
        rw [ptI_zeroL h] at e
        exact absurd h.v0 e
      · exact e2
    have h1 := ptI_gt (l := l) (v := v) (j := ptI l v - 1) (by omega)
    have h2 := ptI_geL h hv
    have h3 := h.up (ptI l v - 1) (by omega)
    rw [show ptI l v - 1 + 1 = ptI l v by omega] at h3
    obtain ⟨b1, b2, b3⟩ := seg_bdL h1 h2 h3.2
    have hv1 := h.vol _ hi
    have hv2 := h.vol (ptI l v - 1) (by omega)
    have hp2 := h.prs (ptI l v - 1) (by omega)
    have hd : (segQ (fg l (ptI l v - 1)) (fg l (ptI l v)) v).2 = (fg l (ptI l v)).1 - (fg l (ptI l v - 1)).1 := rfl
    generalize segQ (fg l (ptI l v - 1)) (fg l (ptI l v)) v = s at *
    have q1 : 0 ≤ (fg l (ptI l v - 1)).2 * s.2 := Int.mul_nonneg hp2.1 (by omega)
    have q2 : (fg l (ptI l v)).2 * s.2 ≤ 1000 * s.2 := Int.mul_le_mul_of_nonneg_right hp.2 (by omega)
    omega
theorem rPr_eqL {l : List (Int × Int)} {v : Int} (h : LinOk l) (h0 : 0 ≤ v) (hv : v ≤ capV l) : rPr l v = fr (prQ l v).1 (prQ l v).2 := by
  have h2 := h.two
  by_cases hv0 : v = 0
  · subst hv0
    rw [prQ_zeroL h]
    have hi : rPrI l 0 = 1 := by
      unfold rPrI
      obtain ⟨m, hm⟩ : ∃ m, l.length - 1 = m + 1 := ⟨l.length - 2, by omega⟩
      rw [hm, ixF, if_pos]
      exact decide_eq_true (h.vol 1 (by omega)).1
    have hu := h.up 0 (by omega)
    unfold rPr
    rw [hi, if_pos (by omega), rSeg_eq _ (by exact hu.1)]
    show fr (segQ (fg l 0) (fg l 1) 0).1 (segQ (fg l 0) (fg l 1) 0).2 = _
    unfold segQ
    dsimp only
    rw [h.v0]
    have := hu.1
    rw [h.v0] at this
    refine fr_eq (by simp only [Nat.zero_add] at this; omega) (by decide) ?_
    grind
  · have hi : rPrI l v = ptI l v := by
      unfold rPrI ptI
      have := ixF_step (p := fun j => decide (v ≤ (fg l j).1)) (k := 0) (n := l.length) (by omega) (decide_eq_false (by rw [h.v0]; omega))
      rw [Nat.sub_zero] at this
      rw [this]
    have iv := ptI_ltL h hv
    have pv := ptI_posL h (by omega) hv
    have gv := ptI_gt (l := l) (v := v) (j := ptI l v - 1) (by omega)
    have hv2 := ptI_geL h hv
    unfold rPr
    rw [hi, if_pos iv, rSeg_eq _ (by omega)]
    have hd := (prQ_denL h h0 hv).1
    refine fr_eq (by show 0 < (fg l (ptI l v)).1 - (fg l (ptI l v - 1)).1; omega) (by omega) ?_
    have := prQ_segL h (by omega) hv
    rw [this]

/-- A greater number has no smaller value. -/
theorem prQ_leL {l : List (Int × Int)} {v u : Int} (h : LinOk l) (h0 : 0 ≤ v) (hvu : v ≤ u) (hu : u ≤ capV l) : (prQ l v).1 * (prQ l u).2 ≤ (prQ l u).1 * (prQ l v).2 := by
  by_cases hlt : v = u
  · subst hlt; exact Int.le_refl _
  have dv := (prQ_denL h h0 (by omega : v ≤ capV l)).1
  have du := (prQ_denL h (by omega) hu).1
  have su := prQ_segL h (by omega : 0 < u) hu
  have iu := ptI_ltL h hu
  have pu := ptI_posL h (by omega) hu
  have gu := ptI_gt (l := l) (v := u) (j := ptI l u - 1) (by omega)
  have hu2 := ptI_geL h hu
  have upu := h.up (ptI l u - 1) (by omega)
  rw [show ptI l u - 1 + 1 = ptI l u by omega] at upu
  obtain ⟨b1, b2, b3⟩ := seg_bdL gu hu2 upu.2
  have key : (fg l (ptI l u - 1)).2 * (prQ l u).2 ≤ (prQ l u).1 := by
    generalize segQ (fg l (ptI l u - 1)) (fg l (ptI l u)) u = s at *
    generalize prQ l u = q at *
    generalize (fg l (ptI l u - 1)).2 = y at *
    have e1 : y * s.2 * q.2 ≤ s.1 * q.2 := Int.mul_le_mul_of_nonneg_right b2 (by omega)
    rw [← su] at e1
    have e2 : y * s.2 * q.2 = y * q.2 * s.2 := by grind
    rw [e2] at e1
    exact Int.le_of_mul_le_mul_right e1 (by omega)
  by_cases hv0 : v = 0
  · subst hv0
    rw [prQ_zeroL h]
    dsimp only
    have := h.leP (i := 0) (j := ptI l u - 1) (Nat.zero_le _) (by omega)
    have := Int.mul_le_mul_of_nonneg_right this (show 0 ≤ (prQ l u).2 by omega)
    omega
  · have sv := prQ_segL h (by omega : 0 < v) (by omega : v ≤ capV l)
    have iv := ptI_ltL h (by omega : v ≤ capV l)
    have pv := ptI_posL h (by omega) (by omega : v ≤ capV l)
    have gv := ptI_gt (l := l) (v := v) (j := ptI l v - 1) (by omega)
    have hv2 := ptI_geL h (by omega : v ≤ capV l)
    have upv := h.up (ptI l v - 1) (by omega)
    rw [show ptI l v - 1 + 1 = ptI l v by omega] at upv
    obtain ⟨c1, c2, c3⟩ := seg_bdL gv hv2 upv.2
    by_cases hij : ptI l v = ptI l u
    · rw [hij] at sv c1 gv hv2 upv
      have hle : (segQ (fg l (ptI l u - 1)) (fg l (ptI l u)) v).1 ≤ (segQ (fg l (ptI l u - 1)) (fg l (ptI l u)) u).1 := by
        unfold segQ
        dsimp only
        have p1 : 0 ≤ ((fg l (ptI l u)).2 - (fg l (ptI l u - 1)).2) * (u - v) := Int.mul_nonneg (by omega) (by omega)
        generalize fg l (ptI l u) = b at *
        generalize fg l (ptI l u - 1) = a at *
        have e : (b.2 - a.2) * (u - a.1) - (b.2 - a.2) * (v - a.1) = (b.2 - a.2) * (u - v) := by grind
        omega
      have hd : (segQ (fg l (ptI l u - 1)) (fg l (ptI l u)) v).2 = (segQ (fg l (ptI l u - 1)) (fg l (ptI l u)) u).2 := rfl
      generalize segQ (fg l (ptI l u - 1)) (fg l (ptI l u)) v = s at *
      generalize segQ (fg l (ptI l u - 1)) (fg l (ptI l u)) u = t at *
      generalize prQ l u = q at *
      generalize prQ l v = p at *
      rw [hd] at sv
      have e1 : s.1 * (p.2 * q.2) ≤ t.1 * (p.2 * q.2) := Int.mul_le_mul_of_nonneg_right hle (Int.mul_nonneg (by omega) (by omega))
      have e2 : s.1 * (p.2 * q.2) = p.1 * q.2 * t.2 := by rw [← Int.mul_assoc, ← sv]; grind
      have e3 : t.1 * (p.2 * q.2) = q.1 * p.2 * t.2 := by rw [Int.mul_comm p.2, ← Int.mul_assoc, ← su]; grind
      rw [e2, e3] at e1
      exact Int.le_of_mul_le_mul_right e1 (by omega)
    · have hlt2 : ptI l v < ptI l u := by
        rcases Nat.lt_or_ge (ptI l v) (ptI l u) with h1 | h1
        · exact h1
        · have := ptI_gt (l := l) (v := v) (j := ptI l u) (by omega)
          omega
      have hle := h.leP (i := ptI l v) (j := ptI l u - 1) (by omega) (by omega)
      have key2 : (prQ l v).1 ≤ (fg l (ptI l v)).2 * (prQ l v).2 := by
        generalize segQ (fg l (ptI l v - 1)) (fg l (ptI l v)) v = s at *
        generalize prQ l v = q at *
        generalize (fg l (ptI l v)).2 = y at *
        have e1 : s.1 * q.2 ≤ y * s.2 * q.2 := Int.mul_le_mul_of_nonneg_right c3 (by omega)
        rw [← sv] at e1
        have e2 : y * s.2 * q.2 = y * q.2 * s.2 := by grind
        rw [e2] at e1
        exact Int.le_of_mul_le_mul_right e1 (by omega)
      generalize prQ l u = q at *
      generalize prQ l v = p at *
      generalize (fg l (ptI l v)).2 = y at *
      generalize (fg l (ptI l u - 1)).2 = z at *
      have e1 : p.1 * q.2 ≤ y * p.2 * q.2 := Int.mul_le_mul_of_nonneg_right key2 (by omega)
      have e2 : y * (p.2 * q.2) ≤ z * (p.2 * q.2) := Int.mul_le_mul_of_nonneg_right hle (Int.mul_nonneg (by omega) (by omega))
      have e3 : z * q.2 * p.2 ≤ q.1 * p.2 := Int.mul_le_mul_of_nonneg_right key (by omega)
      have e4 : y * p.2 * q.2 = y * (p.2 * q.2) := by grind
      have e5 : z * q.2 * p.2 = z * (p.2 * q.2) := by grind
      omega
/-- Rounded down, and up. -/
def flQ (q : Int × Int) : Int := q.1 / q.2
def clQ (q : Int × Int) : Int := (q.1 + q.2 - 1) / q.2
theorem flQ_le {p q : Int × Int} (hp : 0 < p.2) (hq : 0 < q.2) (h : p.1 * q.2 ≤ q.1 * p.2) : flQ p ≤ flQ q := by
  unfold flQ
  rw [Int.le_ediv_iff_mul_le hq]
  have h1 := Int.ediv_mul_le p.1 (b := p.2) (by omega)
  generalize p.1 / p.2 = f at *
  have e1 : f * p.2 * q.2 ≤ p.1 * q.2 := Int.mul_le_mul_of_nonneg_right h1 (by omega)
  have e2 : f * p.2 * q.2 = f * q.2 * p.2 := by grind
  exact Int.le_of_mul_le_mul_right (show f * q.2 * p.2 ≤ q.1 * p.2 by omega) hp
theorem flQ_less {q : Int × Int} (n : Int) (hq : 0 < q.2) : decide (flQ q < n) = lessQ q (n, 1) := by
  unfold flQ lessQ
  dsimp only
  rw [Int.mul_one]
  by_cases h : q.1 < n * q.2
  · rw [decide_eq_true h, decide_eq_true ((Int.ediv_lt_iff_lt_mul hq).2 h)]
  · rw [decide_eq_false h, decide_eq_false (fun h2 => h ((Int.ediv_lt_iff_lt_mul hq).1 h2))]
theorem clQ_eq {q : Int × Int} (hq : 0 < q.2) : clQ q = -(-q.1 / q.2) := by
  unfold clQ
  have h1 := Int.mul_ediv_add_emod (q.1 + q.2 - 1) q.2
  have h2 := Int.emod_nonneg (q.1 + q.2 - 1) (show q.2 ≠ 0 by omega)
  have h3 := Int.emod_lt_of_pos (q.1 + q.2 - 1) hq
  generalize (q.1 + q.2 - 1) / q.2 = c at *
  have : -q.1 / q.2 = -c := by
    refine Int.le_antisymm ?_ ?_
    · have : -q.1 / q.2 < -c + 1 := by
        rw [Int.ediv_lt_iff_lt_mul hq]
        have : (-c + 1) * q.2 = q.2 - q.2 * c := by grind
        omega
      omega
    · rw [Int.le_ediv_iff_mul_le hq]
      have : -c * q.2 = -(q.2 * c) := by grind
      omega
  omega
theorem clQ_le {p q : Int × Int} (hp : 0 < p.2) (hq : 0 < q.2) (h : p.1 * q.2 ≤ q.1 * p.2) : clQ p ≤ clQ q := by
  rw [clQ_eq hp, clQ_eq hq]
  have := flQ_le (p := (-q.1, q.2)) (q := (-p.1, p.2)) hq hp (by dsimp only; grind)
  unfold flQ at this
  dsimp only at this
  omega

end Go.Proofs.YtjfedpblkejmkaaGreat

