/-
  Texts of this claim, in their build order: OA3 OP7.
-/
import Derived.Test.YtjfedpblkejmkaaGreatEve11
import Derived.Test.YtjfedpblkejmkaaGreatEve10

/-
  CheckPlant: the index and the error of a plant.
-/
namespace Go.Proofs.YtjfedpblkejmkaaGreat
open Go.RowKit
attribute [local go_sem] Oper.semAt_some

def ordB (l : List (Int × Int)) (k : Nat) : Bool := if k = 0 then (fg l 0).1 == 0 else decide ((fg l (k - 1)).1 < (fg l k).1) && decide ((fg l (k - 1)).2 < (fg l k).2)
def ptE (l : List (Int × Int)) (k : Nat) : Int := firstE [unl (wthn (fg l k).1 0 200 && wthn (fg l k).2 0 1000) 2, unl (ordB l k) 9]
/-- The index and the error of a plant. -/
def pltE (p : Plt) : Int := firstE [unl (wthn p.pump 0 50 && wthn p.on 0 1000 && wthn p.off 0 1000) 2, unl (decide (p.on < p.off)) 9]
def chP (p : Plt) : Int × Int := if fewE p.pts.length ≠ 0 then (0, fewE p.pts.length) else if (eachR (ptE p.pts) 0 p.pts.length).2 ≠ 0 then eachR (ptE p.pts) 0 p.pts.length else (0, pltE p)
abbrev plC (p : Plt) (a : Option Addr) (cap : Nat) : Array Value := #[.slice a p.pts.length cap, .int .i64 p.pump, .int .i64 p.on, .int .i64 p.off]

set_option maxHeartbeats 1600000 in
set_option maxRecDepth 100000 in
theorem pt1_any (l : List (Int × Int)) (a : Option Addr) (cap : Nat) (x1 x2 x3 : Value) (k bp : Nat) (w : World) (hk : k < l.length) (hlen : l.length ≤ 100000) (hp : Blk w bp #[.slice a l.length cap, x1, x2, x3]) (hr : Reads w a (l.length * 2) (fracs l)) :
    Calls Tryz.prog 133 #[.int .i64 k, .agg #[.int .i64 (fg l k).1, .int .i64 (fg l k).2], .pointer (some ⟨bp, 0, none⟩)] w fun e w' => e = .returned (.int .i64 (ptE l k)) ∧ Below w.heap.size w w' := by
  have HE : Hid (firstE [unl (wthn (fg l k).1 0 200 && wthn (fg l k).2 0 1000) 2, unl (ordB l k) 9] = ptE l k) := Lib.hid rfl
  obtain ⟨v, hv⟩ : ∃ v, (fg l k).1 = v := ⟨_, rfl⟩
  obtain ⟨q, hq⟩ : ∃ q, (fg l k).2 = q := ⟨_, rfl⟩
  obtain ⟨pe, hpe⟩ : ∃ e, ptE l k = e := ⟨_, rfl⟩
  rw [hpe] at HE ⊢
  clear hpe
  rcases k with _ | j
  · have ho : ordB l 0 = (v == 0) := by unfold ordB; rw [if_pos rfl, hv]
    rw [hv, hq, ho] at HE
    rw [hv, hq]
    clear hv hq ho hk hp hr
    cases hz : v == 0
    all_goals
      rw [hz] at HE
      cases hvo : wthn v 0 200
      all_goals
        rw [hvo] at HE
        have HV := Lib.hid hvo
        clear hvo
        go_enter Tryz.func133, Tryz.ntmps133
        go_wp2_with (first | (go_at_call 134; refine (isVolume_any _ _).mono ?_; rintro e w' ⟨rfl, rfl⟩; rw [HV.out]) | (go_at_call 135; refine (isPressure_any _ _).mono ?_; rintro e w' ⟨rfl, rfl⟩) | (go_at_call 94; refine (oUnless_any _ _ _).mono ?_; rintro e w' ⟨rfl, rfl⟩) | (go_at_call 92; refine (oFirst2_new _ _ _ _ (by simp)).mono ?_; rintro e w' ⟨rfl, rfl⟩))
        go_ret
        exact ⟨ret_int (by rw [← HE.out]; first | rfl | simp), bAlloc (bAlloc (bSelf w) _) _⟩
  · have hv' := hv
    obtain ⟨v', hv2⟩ : ∃ v, (fg l j).1 = v := ⟨_, rfl⟩
    obtain ⟨q', hq2⟩ : ∃ q, (fg l j).2 = q := ⟨_, rfl⟩
    have ho : ordB l (j + 1) = (decide (v' < v) && decide (q' < q)) := by unfold ordB; rw [if_neg (by omega), Nat.add_sub_cancel, hv, hq, hv2, hq2]
    rw [hv, hq, ho] at HE
    rw [hv, hq]
    obtain ⟨b, off, rfl, hb, hc⟩ := hr.at (k := j * 2) (by omega)
    have c0 : w.cell? ⟨b, off + j * 2, none⟩ = some (.int .i64 v') := by have := hc (j * 2) (by omega); rw [fracs0, hv2] at this; exact this
    have c1 : w.cell? ⟨b, off + j * 2 + 1, none⟩ = some (.int .i64 q') := by have := hc (j * 2 + 1) (by omega); rw [fracs1, hq2] at this; exact this
    obtain ⟨hbp, kp, -⟩ := hp
    have hj : j < l.length := by omega
    obtain ⟨n, hn⟩ : ∃ n, l.length = n := ⟨_, rfl⟩
    rw [hn] at hj hlen kp
    clear hv hq hv' hv2 hq2 ho hr hc hn hk
    cases hz : decide (v' < v)
    all_goals
      rw [hz] at HE
      have HZ := Lib.hid hz
      cases hvo : wthn v 0 200
      all_goals
        rw [hvo] at HE
        have HV := Lib.hid hvo
        clear hvo
        go_enter Tryz.func133, Tryz.ntmps133
        go_wp2_with (first | (go_at_call 134; refine (isVolume_any _ _).mono ?_; rintro e w' ⟨rfl, rfl⟩; rw [HV.out]) | (go_at_call 135; refine (isPressure_any _ _).mono ?_; rintro e w' ⟨rfl, rfl⟩) | (go_at_call 94; refine (oUnless_any _ _ _).mono ?_; rintro e w' ⟨rfl, rfl⟩) | (go_at_call 92; refine (oFirst2_new _ _ _ _ (by simp)).mono ?_; rintro e w' ⟨rfl, rfl⟩))
        go_ret
        exact ⟨ret_int (by rw [← HE.out]; first | rfl | simp), bAlloc (bAlloc (bAlloc (bSelf w) _) _) _⟩

set_option maxHeartbeats 1600000 in
set_option maxRecDepth 100000 in
theorem CheckPlant_any (p : Plt) (a : Option Addr) (cap : Nat) (w : World) (hlen : p.pts.length ≤ 100000) (hr : Reads w a (p.pts.length * 2) (fracs p.pts)) :
    Calls Tryz.prog 59 #[.agg (plC p a cap)] w fun e w' => e = .returned (.tuple #[.int .i64 (chP p).1, .int .i64 (chP p).2]) ∧ Below w.heap.size w w' := by
  have HEA := Lib.hid (fun W bp (hp : Blk W bp (plC p a cap)) (hb : Below w.heap.size w W) => eachPt_any p.pts a cap 133 #[.pointer (some ⟨bp, 0, none⟩)] W (ptE p.pts) (fun _ W' => Blk W' bp (plC p a cap) ∧ Below w.heap.size w W') hlen (by intro args w; go_simp) ⟨hp, hb⟩ (fun _ W' _ h => hr.to h.2) (fun _ W' o h => ⟨h.1.alloc o, bAlloc h.2 o⟩)
    (fun k W' hk h => (pt1_any p.pts a cap _ _ _ k bp W' hk hlen h.1 (hr.to h.2)).mono fun e w'' ⟨he, hb'⟩ => ⟨he, h.1.to hb', bThen h.2 hb'⟩))
  have H1 : Hid (chP p = if fewE p.pts.length ≠ 0 then (0, fewE p.pts.length) else if (eachR (ptE p.pts) 0 p.pts.length).2 ≠ 0 then eachR (ptE p.pts) 0 p.pts.length else (0, pltE p)) := Lib.hid rfl
  have H2 : Hid (firstE [unl (wthn p.pump 0 50 && wthn p.on 0 1000 && wthn p.off 0 1000) 2, unl (decide (p.on < p.off)) 9] = pltE p) := Lib.hid rfl
  obtain ⟨ch, hch⟩ : ∃ c, chP p = c := ⟨_, rfl⟩
  rw [hch] at H1 ⊢
  clear hch
  obtain ⟨pe, hpe⟩ : ∃ e, pltE p = e := ⟨_, rfl⟩
  rw [hpe] at H1 H2
  clear hpe
  obtain ⟨er, her⟩ : ∃ e, eachR (ptE p.pts) 0 p.pts.length = e := ⟨_, rfl⟩
  rw [her] at H1 HEA
  clear her
  obtain ⟨pts, pump, on, off⟩ := p
  dsimp only [plC] at *
  obtain ⟨n, hn⟩ : ∃ n, pts.length = n := ⟨_, rfl⟩
  rw [hn] at HEA H1 hlen ⊢
  obtain ⟨fe, hfe⟩ : ∃ e, fewE (n : Int) = e := ⟨_, rfl⟩
  have HFE := Lib.hid hfe
  rw [hfe] at H1
  clear hfe hr hn
  obtain ⟨e1, e2⟩ := er
  dsimp only at H1 HEA
  by_cases hf : fe = 0
  · by_cases he : e2 = 0
    · have hc : ch = (0, pe) := by rw [H1.out, if_neg (by simpa using hf), if_neg (by simpa using he)]
      subst hc
      clear H1
      subst he
      cases hv1 : wthn pump 0 50
      all_goals cases hv2 : wthn on 0 1000
      all_goals
        rw [hv1, hv2] at H2
        have HV1 := Lib.hid hv1
        have HV2 := Lib.hid hv2
        clear hv1 hv2
        go_enter Tryz.func59, Tryz.ntmps59
        go_wp2_with fail
        refine (oFew_any _ _).mono ?_
        rintro e w1 ⟨rfl, hb⟩
        rw [HFE.out, hf]
        have K0 : Hid (Blk w1 w.heap.size #[.slice a n cap, .int .i64 pump, .int .i64 on, .int .i64 off]) := Lib.hid ((Blk.new _ _ _).to hb)
        have HB := Lib.hid (bThen (bAlloc (bSelf w) _) hb)
        clear hb
        obtain ⟨-, k0, -⟩ := K0.out
        go_wp2_with fail
        refine (HEA.out w1 _ K0.out HB.out).mono ?_
        rintro e w2 ⟨rfl, kk, -, ⟨hk0, hbb⟩, -⟩
        replace K0 := Lib.hid hk0
        replace HB := Lib.hid hbb
        clear hk0 hbb k0
        obtain ⟨-, k0, -⟩ := K0.out
        go_wp2_with fail
        refine wp_region_quiet_tail 20 (fun w' => Below (World.heap w2).size (w2) w') (by kernel_rfl) (by kernel_rfl) (Below.refl _ _).drew ?_
        simp only [List.take_succ_cons, List.take_zero, List.drop_succ_cons, List.drop_zero]
        refine WQ.out ?_
        repeat (first | (refine WQ_no (by rfl) ?_; (simp only [Act.put, List.setIfInBounds_toArray, List.set_cons_zero, List.set_cons_succ])) | (refine WQ_yes (by rfl) ?_; apply Exists.intro; refine ⟨fun w1 hb1 => ?_, ?_⟩; (focus (((obtain ⟨-, k0, -⟩ := K0.out.to hb1); have hb1 := Lib.hid hb1; go_simp); (try (go_bits; try go_simp)); (try (rw [if_pos (by omega)]; try go_simp)); (first | done | ((first | (go_at_call 108; refine (isFlow_any _ _).mono ?_; rintro e w' ⟨rfl, rfl⟩; exact ⟨by rw [HV1.out], hb1.out⟩) | (go_at_call 135; refine (isPressure_any _ _).mono ?_; rintro e w' ⟨rfl, rfl⟩; first | exact ⟨by rw [HV2.out], hb1.out⟩ | exact ⟨rfl, hb1.out⟩) | (go_at_call 94; refine (oUnless_any _ _ _).mono ?_; rintro e w' ⟨rfl, rfl⟩; exact ⟨rfl, hb1.out⟩))) | (with_reducible rfl) | exact rfl))); (simp only [Act.put, List.setIfInBounds_toArray, List.set_cons_zero, List.set_cons_succ])))
        refine WQ_nil ?_
        intro w1 hb1
        replace HB := Lib.hid (bThen HB.out hb1)
        clear hb1
        go_wp2_with fail
        refine (oFirst2_new _ _ _ _ (by simp)).mono ?_
        rintro e w' ⟨rfl, rfl⟩
        go_wp2_with fail
        go_ret2
        exact ⟨tuple2_eq rfl (by rw [← H2.out]; first | rfl | simp), bAlloc HB.out _⟩
    · have hc : ch = (e1, e2) := by rw [H1.out, if_neg (by simpa using hf), if_pos he]
      subst hc
      clear H1 H2
      have he' : (e2 != 0) = true := by simpa using he
      clear he
      go_enter Tryz.func59, Tryz.ntmps59
      go_wp2_with fail
      refine (oFew_any _ _).mono ?_
      rintro e w1 ⟨rfl, hb⟩
      rw [HFE.out, hf]
      have K0 : Hid (Blk w1 w.heap.size #[.slice a n cap, .int .i64 pump, .int .i64 on, .int .i64 off]) := Lib.hid ((Blk.new _ _ _).to hb)
      have HB := Lib.hid (bThen (bAlloc (bSelf w) _) hb)
      clear hb
      obtain ⟨-, k0, -⟩ := K0.out
      go_wp2_with fail
      refine (HEA.out w1 _ K0.out HB.out).mono ?_
      rintro e w2 ⟨rfl, kk, -, ⟨hk0, hbb⟩, -⟩
      replace HB := Lib.hid hbb
      clear hk0 hbb k0
      go_wp2_with fail
      go_ret2
      exact ⟨rfl, HB.out⟩
  · have hc : ch = (0, fe) := by rw [H1.out, if_pos hf]
    subst hc
    clear H1 H2
    have hf' : (fe != 0) = true := by simpa using hf
    have HF := Lib.hid hf
    clear hf
    go_enter Tryz.func59, Tryz.ntmps59
    go_wp2_with fail
    refine (oFew_any _ _).mono ?_
    rintro e w1 ⟨rfl, hb⟩
    rw [HFE.out]
    have HB := Lib.hid (bThen (bAlloc (bSelf w) _) hb)
    clear hb
    go_wp2_with fail
    go_ret2
    exact ⟨rfl, HB.out⟩

end Go.Proofs.YtjfedpblkejmkaaGreat

/-
  Plain laws of the lines of a valve: they rise or stand.
-/
namespace Go.Proofs.YtjfedpblkejmkaaGreat
open Go.RowKit

/-- Points of a line that does not fall: at most 8, the first at 0. -/
structure LinOk (l : List (Int × Int)) : Prop where
  two : 2 ≤ l.length
  few : l.length ≤ 8
  v0 : (fg l 0).1 = 0
  vol : ∀ k, k < l.length → 0 ≤ (fg l k).1 ∧ (fg l k).1 ≤ 1000
  prs : ∀ k, k < l.length → 0 ≤ (fg l k).2 ∧ (fg l k).2 ≤ 1000
  up : ∀ k, k + 1 < l.length → (fg l k).1 < (fg l (k + 1)).1 ∧ (fg l k).2 ≤ (fg l (k + 1)).2
theorem LinOk.mono {l : List (Int × Int)} (h : LinOk l) {i : Nat} : ∀ {d : Nat}, i + d < l.length → (fg l i).1 + d ≤ (fg l (i + d)).1 ∧ (fg l i).2 ≤ (fg l (i + d)).2
  | 0, _ => by simp
  | d + 1, hd => by
    have h1 := h.mono (i := i) (d := d) (by omega)
    have h2 := h.up (i + d) (by omega)
    rw [show i + (d + 1) = i + d + 1 by omega]
    omega
theorem LinOk.leP {l : List (Int × Int)} (h : LinOk l) {i j : Nat} (hij : i ≤ j) (hj : j < l.length) : (fg l i).2 ≤ (fg l j).2 := by
  obtain ⟨d, rfl⟩ := Nat.exists_eq_add_of_le hij
  have := (h.mono (i := i) (d := d) hj).2; omega
theorem ptI_ltL {l : List (Int × Int)} {v : Int} (h : LinOk l) (hv : v ≤ capV l) : ptI l v < l.length := by
  rcases Nat.lt_or_ge (ptI l v) l.length with h1 | h1
  · exact h1
  · have h2 := ixF_no (fun j => decide (v ≤ (fg l j).1)) l.length 0 (l.length - 1) (Nat.zero_le _) (by have := h.two; unfold ptI at h1; omega)
    have h3 : ¬ v ≤ (fg l (l.length - 1)).1 := of_decide_eq_false h2
    unfold capV at hv
    omega
theorem ptI_geL {l : List (Int × Int)} {v : Int} (h : LinOk l) (hv : v ≤ capV l) : v ≤ (fg l (ptI l v)).1 := by
  have := ixF_yes (fun j => decide (v ≤ (fg l j).1)) l.length 0 (by have := ptI_ltL h hv; unfold ptI at this; omega)
  exact of_decide_eq_true this
theorem ptI_zeroL {l : List (Int × Int)} (h : LinOk l) : ptI l 0 = 0 := by
  unfold ptI
  obtain ⟨m, hm⟩ : ∃ m, l.length = m + 1 := ⟨l.length - 1, by have := h.two; omega⟩
  rw [hm, ixF, if_pos]
  rw [h.v0]; rfl
/-- What a number above 0 lies between. -/
theorem seg_bdL {a b : Int × Int} {v : Int} (h1 : a.1 < v) (h2 : v ≤ b.1) (h3 : a.2 ≤ b.2) : 0 < (segQ a b v).2 ∧ a.2 * (segQ a b v).2 ≤ (segQ a b v).1 ∧ (segQ a b v).1 ≤ b.2 * (segQ a b v).2 := by
  unfold segQ
  dsimp only
  have p1 : 0 ≤ (b.2 - a.2) * (v - a.1) := Int.mul_nonneg (by omega) (by omega)
  have p2 : 0 ≤ (b.2 - a.2) * (b.1 - v) := Int.mul_nonneg (by omega) (by omega)
  have e : b.2 * (b.1 - a.1) - (a.2 * (b.1 - a.1) + (b.2 - a.2) * (v - a.1)) = (b.2 - a.2) * (b.1 - v) := by grind
  exact ⟨by omega, by omega, by omega⟩
theorem prQ_denL {l : List (Int × Int)} {v : Int} (h : LinOk l) (h0 : 0 ≤ v) (hv : v ≤ capV l) : 1 ≤ (prQ l v).2 ∧ (prQ l v).2 ≤ 1000 ∧ 0 ≤ (prQ l v).1 ∧ (prQ l v).1 ≤ 1000 * (prQ l v).2 := by
  have hi := ptI_ltL h hv
  have hp := h.prs _ hi
  unfold prQ
  split
  · dsimp only; omega
  · rename_i e
    have hpos : 0 < ptI l v := by
      rcases Nat.eq_zero_or_pos (ptI l v) with e2 | e2
      · have := ptI_geL h hv
        rw [e2, h.v0] at this
        have : v = 0 := by omega
        subst this
        rw [ptI_zeroL h] at e
        exact absurd h.v0 e
      · exact e2
    have h1 := ptI_gt (l := l) (v := v) (j := ptI l v - 1) (by omega)
    have h2 := ptI_geL h hv
    have h3 := h.up (ptI l v - 1) (by omega)
    rw [show ptI l v - 1 + 1 = ptI l v by omega] at h3
    obtain ⟨b1, b2, b3⟩ := seg_bdL h1 h2 h3.2
    have hv1 := h.vol _ hi
    have hv2 := h.vol (ptI l v - 1) (by omega)
    have hp2 := h.prs (ptI l v - 1) (by omega)
    have hd : (segQ (fg l (ptI l v - 1)) (fg l (ptI l v)) v).2 = (fg l (ptI l v)).1 - (fg l (ptI l v - 1)).1 := rfl
    generalize segQ (fg l (ptI l v - 1)) (fg l (ptI l v)) v = s at *
    have q1 : 0 ≤ (fg l (ptI l v - 1)).2 * s.2 := Int.mul_nonneg hp2.1 (by omega)
    have q2 : (fg l (ptI l v)).2 * s.2 ≤ 1000 * s.2 := Int.mul_le_mul_of_nonneg_right hp.2 (by omega)
    omega
/-- Rounded down, and up. -/
def flQ (q : Int × Int) : Int := q.1 / q.2
def clQ (q : Int × Int) : Int := (q.1 + q.2 - 1) / q.2
end Go.Proofs.YtjfedpblkejmkaaGreat

