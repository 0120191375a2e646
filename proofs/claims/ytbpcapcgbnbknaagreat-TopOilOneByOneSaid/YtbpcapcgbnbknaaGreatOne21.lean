/-
  Texts of this claim, in their build order: OA3 OP7 OA4.
-/
import Derived.Test.YtbpcapcgbnbknaaGreatOne20
import Derived.Test.YtbpcapcgbnbknaaGreatOne19
import Derived.Test.YtbpcapcgbnbknaaGreatOne0

namespace Go.Proofs.YtbpcapcgbnbknaaGreat
section
set_option maxRecDepth 100000
set_option maxHeartbeats 1600000
open Go.RowKit
attribute [local go_sem] Oper.semAt_some

def ordB (l : List (Int × Int)) (k : Nat) : Bool := if k = 0 then (fg l 0).1 == 0 else decide ((fg l (k - 1)).1 < (fg l k).1) && decide ((fg l (k - 1)).2 < (fg l k).2)
def ptE (l : List (Int × Int)) (k : Nat) : Int := firstE [unl (wthn (fg l k).1 0 200 && wthn (fg l k).2 0 1000) 2, unl (ordB l k) 9]
/-- The index and the error of a plant. -/
def pltE (p : Plt) : Int := firstE [unl (wthn p.pump 0 50 && wthn p.on 0 1000 && wthn p.off 0 1000) 2, unl (decide (p.on < p.off)) 9]
def chP (p : Plt) : Int × Int := if fewE p.pts.length ≠ 0 then (0, fewE p.pts.length) else if (eachR (ptE p.pts) 0 p.pts.length).2 ≠ 0 then eachR (ptE p.pts) 0 p.pts.length else (0, pltE p)
abbrev plC (p : Plt) (a : Option Addr) (cap : Nat) : Array Value := #[.slice a p.pts.length cap, .int .i64 p.pump, .int .i64 p.on, .int .i64 p.off]

theorem pt1_any (l : List (Int × Int)) (a : Option Addr) (cap : Nat) (x1 x2 x3 : Value) (k bp : Nat) (w : World) (hk : k < l.length) (hlen : l.length ≤ 100000) (hp : Blk w bp #[.slice a l.length cap, x1, x2, x3]) (hr : Reads w a (l.length * 2) (fracs l)) :
    Calls Tryz.prog 188 #[.int .i64 k, .agg #[.int .i64 (fg l k).1, .int .i64 (fg l k).2], .pointer (some ⟨bp, 0, none⟩)] w fun e w' => e = .returned (.int .i64 (ptE l k)) ∧ Below w.heap.size w w' := by
  have HE : Hid (firstE [unl (wthn (fg l k).1 0 200 && wthn (fg l k).2 0 1000) 2, unl (ordB l k) 9] = ptE l k) := zH rfl
  obtain ⟨v, hv⟩ : ∃ v, (fg l k).1 = v := ⟨_, rfl⟩
  obtain ⟨q, hq⟩ : ∃ q, (fg l k).2 = q := ⟨_, rfl⟩
  obtain ⟨pe, hpe⟩ : ∃ e, ptE l k = e := ⟨_, rfl⟩
  rw [hpe] at HE ⊢
  clear hpe
  rcases k with _ | j
  · have ho : ordB l 0 = (v == 0) := by unfold ordB; rw [if_pos rfl, hv]
    rw [hv, hq, ho] at HE
    rw [hv, hq]
    clear hv hq ho hk hp hr
    cases hz : v == 0
    all_goals
      rw [hz] at HE
      cases hvo : wthn v 0 200
      all_goals
        rw [hvo] at HE
        have HV := zH hvo
        clear hvo
        go_enter Tryz.func188, Tryz.ntmps188
        go_wp2_with (first | (go_at_call 189; refine (isVolume_any _ _).mono ?_; rintro e w' ⟨rfl, rfl⟩; rw [HV.out]) | (go_at_call 128; refine (isPressure_any _ _).mono ?_; rintro e w' ⟨rfl, rfl⟩) | (go_at_call 80; refine (oUnless_any _ _ _).mono ?_; rintro e w' ⟨rfl, rfl⟩) | (go_at_call 79; refine (oFirst2_new _ _ _ _ (by simp)).mono ?_; rintro e w' ⟨rfl, rfl⟩))
        go_ret
        exact ⟨ret_int (by rw [← HE.out]; first | rfl | simp), bAlloc (bAlloc (bSelf w) _) _⟩
  · have hv' := hv
    obtain ⟨v', hv2⟩ : ∃ v, (fg l j).1 = v := ⟨_, rfl⟩
    obtain ⟨q', hq2⟩ : ∃ q, (fg l j).2 = q := ⟨_, rfl⟩
    have ho : ordB l (j + 1) = (decide (v' < v) && decide (q' < q)) := by unfold ordB; rw [if_neg (by omega), Nat.add_sub_cancel, hv, hq, hv2, hq2]
    rw [hv, hq, ho] at HE
    rw [hv, hq]
    obtain ⟨b, off, rfl, hb, hc⟩ := hr.at (k := j * 2) (by omega)
    have c0 : w.cell? ⟨b, off + j * 2, none⟩ = some (.int .i64 v') := by have := hc (j * 2) (by omega); rw [fracs0, hv2] at this; exact this
    have c1 : w.cell? ⟨b, off + j * 2 + 1, none⟩ = some (.int .i64 q') := by have := hc (j * 2 + 1) (by omega); rw [fracs1, hq2] at this; exact this
    obtain ⟨hbp, kp, -⟩ := hp
    have hj : j < l.length := by omega
    obtain ⟨n, hn⟩ : ∃ n, l.length = n := ⟨_, rfl⟩
    rw [hn] at hj hlen kp
    clear hv hq hv' hv2 hq2 ho hr hc hn hk
    cases hz : decide (v' < v)
    all_goals
      rw [hz] at HE
      have HZ := zH hz
      cases hvo : wthn v 0 200
      all_goals
        rw [hvo] at HE
        have HV := zH hvo
        clear hvo
        go_enter Tryz.func188, Tryz.ntmps188
        go_wp2_with (first | (go_at_call 189; refine (isVolume_any _ _).mono ?_; rintro e w' ⟨rfl, rfl⟩; rw [HV.out]) | (go_at_call 128; refine (isPressure_any _ _).mono ?_; rintro e w' ⟨rfl, rfl⟩) | (go_at_call 80; refine (oUnless_any _ _ _).mono ?_; rintro e w' ⟨rfl, rfl⟩) | (go_at_call 79; refine (oFirst2_new _ _ _ _ (by simp)).mono ?_; rintro e w' ⟨rfl, rfl⟩))
        go_ret
        exact ⟨ret_int (by rw [← HE.out]; first | rfl | simp), bAlloc (bAlloc (bAlloc (bSelf w) _) _) _⟩

theorem CheckPlant_any (p : Plt) (a : Option Addr) (cap : Nat) (w : World) (hlen : p.pts.length ≤ 100000) (hr : Reads w a (p.pts.length * 2) (fracs p.pts)) :
    Calls Tryz.prog 152 #[.agg (plC p a cap)] w fun e w' => e = .returned (.tuple #[.int .i64 (chP p).1, .int .i64 (chP p).2]) ∧ Below w.heap.size w w' := by
  have HEA := zH (fun W bp (hp : Blk W bp (plC p a cap)) (hb : Below w.heap.size w W) => eachPt_any p.pts a cap 188 #[.pointer (some ⟨bp, 0, none⟩)] W (ptE p.pts) (fun _ W' => Blk W' bp (plC p a cap) ∧ Below w.heap.size w W') hlen (by intro args w; go_simp) ⟨hp, hb⟩ (fun _ W' _ h => hr.to h.2) (fun _ W' o h => ⟨h.1.alloc o, bAlloc h.2 o⟩)
    (fun k W' hk h => (pt1_any p.pts a cap _ _ _ k bp W' hk hlen h.1 (hr.to h.2)).mono fun e w'' ⟨he, hb'⟩ => ⟨he, h.1.to hb', bThen h.2 hb'⟩))
  have H1 : Hid (chP p = if fewE p.pts.length ≠ 0 then (0, fewE p.pts.length) else if (eachR (ptE p.pts) 0 p.pts.length).2 ≠ 0 then eachR (ptE p.pts) 0 p.pts.length else (0, pltE p)) := zH rfl
  have H2 : Hid (firstE [unl (wthn p.pump 0 50 && wthn p.on 0 1000 && wthn p.off 0 1000) 2, unl (decide (p.on < p.off)) 9] = pltE p) := zH rfl
  obtain ⟨ch, hch⟩ : ∃ c, chP p = c := ⟨_, rfl⟩
  rw [hch] at H1 ⊢
  clear hch
  obtain ⟨pe, hpe⟩ : ∃ e, pltE p = e := ⟨_, rfl⟩
  rw [hpe] at H1 H2
  clear hpe
  obtain ⟨er, her⟩ : ∃ e, eachR (ptE p.pts) 0 p.pts.length = e := ⟨_, rfl⟩
  rw [her] at H1 HEA
  clear her
  obtain ⟨pts, pump, on, off⟩ := p
  dsimp only [plC] at *
  obtain ⟨n, hn⟩ : ∃ n, pts.length = n := ⟨_, rfl⟩
  rw [hn] at HEA H1 hlen ⊢
  obtain ⟨fe, hfe⟩ : ∃ e, fewE (n : Int) = e := ⟨_, rfl⟩
  have HFE := zH hfe
  rw [hfe] at H1
  clear hfe hr hn
  obtain ⟨e1, e2⟩ := er
  dsimp only at H1 HEA
  by_cases hf : fe = 0
  · by_cases he : e2 = 0
    · have hc : ch = (0, pe) := by rw [H1.out, if_neg (by simpa using hf), if_neg (by simpa using he)]
      subst hc
      clear H1
      subst he
      cases hv1 : wthn pump 0 50
      all_goals cases hv2 : wthn on 0 1000
      all_goals
        rw [hv1, hv2] at H2
        have HV1 := zH hv1
        have HV2 := zH hv2
        clear hv1 hv2
        go_enter Tryz.func152, Tryz.ntmps152
        go_wp2_with fail
        refine (oFew_any _ _).mono ?_
        rintro e w1 ⟨rfl, hb⟩
        rw [HFE.out, hf]
        have K0 : Hid (Blk w1 w.heap.size #[.slice a n cap, .int .i64 pump, .int .i64 on, .int .i64 off]) := zH ((Blk.new _ _ _).to hb)
        have HB := zH (bThen (bAlloc (bSelf w) _) hb)
        clear hb
        obtain ⟨-, k0, -⟩ := K0.out
        go_wp2_with fail
        refine (HEA.out w1 _ K0.out HB.out).mono ?_
        rintro e w2 ⟨rfl, kk, -, ⟨hk0, hbb⟩, -⟩
        replace K0 := zH hk0
        replace HB := zH hbb
        clear hk0 hbb k0
        obtain ⟨-, k0, -⟩ := K0.out
        go_wp2_with fail
        refine wp_region_quiet_tail 20 (fun w' => Below (World.heap w2).size (w2) w') (by kernel_rfl) (by kernel_rfl) (Below.refl _ _).drew ?_
        simp only [List.take_succ_cons, List.take_zero, List.drop_succ_cons, List.drop_zero]
        refine WQ.out ?_
        repeat (first | (refine WQ_no (by rfl) ?_; (simp only [Act.put, zzT, zzO, zzS])) | (refine WQ_yes (by rfl) ?_; apply Exists.intro; refine ⟨fun w1 hb1 => ?_, ?_⟩; (focus (((obtain ⟨-, k0, -⟩ := K0.out.to hb1); have hb1 := zH hb1; go_simp); (try (go_bits; try go_simp)); (try (rw [if_pos (by omega)]; try go_simp)); (first | done | ((first | (go_at_call 82; refine (isFlow_any _ _).mono ?_; rintro e w' ⟨rfl, rfl⟩; exact ⟨by rw [HV1.out], hb1.out⟩) | (go_at_call 128; refine (isPressure_any _ _).mono ?_; rintro e w' ⟨rfl, rfl⟩; first | exact ⟨by rw [HV2.out], hb1.out⟩ | exact ⟨rfl, hb1.out⟩) | (go_at_call 80; refine (oUnless_any _ _ _).mono ?_; rintro e w' ⟨rfl, rfl⟩; exact ⟨rfl, hb1.out⟩))) | (with_reducible rfl) | exact rfl))); (simp only [Act.put, zzT, zzO, zzS])))
        refine WQ_nil ?_
        intro w1 hb1
        replace HB := zH (bThen HB.out hb1)
        clear hb1
        go_wp2_with fail
        refine (oFirst2_new _ _ _ _ (by simp)).mono ?_
        rintro e w' ⟨rfl, rfl⟩
        go_wp2_with fail
        go_ret2
        exact ⟨tuple2_eq rfl (by rw [← H2.out]; first | rfl | simp), bAlloc HB.out _⟩
    · have hc : ch = (e1, e2) := by rw [H1.out, if_neg (by simpa using hf), if_pos he]
      subst hc
      clear H1 H2
      have he' : (e2 != 0) = true := by simpa using he
      clear he
      go_enter Tryz.func152, Tryz.ntmps152
      go_wp2_with fail
      refine (oFew_any _ _).mono ?_
      rintro e w1 ⟨rfl, hb⟩
      rw [HFE.out, hf]
      have K0 : Hid (Blk w1 w.heap.size #[.slice a n cap, .int .i64 pump, .int .i64 on, .int .i64 off]) := zH ((Blk.new _ _ _).to hb)
      have HB := zH (bThen (bAlloc (bSelf w) _) hb)
      clear hb
      obtain ⟨-, k0, -⟩ := K0.out
      go_wp2_with fail
      refine (HEA.out w1 _ K0.out HB.out).mono ?_
      rintro e w2 ⟨rfl, kk, -, ⟨hk0, hbb⟩, -⟩
      replace HB := zH hbb
      clear hk0 hbb k0
      go_wp2_with fail
      go_ret2
      exact ⟨rfl, HB.out⟩
  · have hc : ch = (0, fe) := by rw [H1.out, if_pos hf]
    subst hc
    clear H1 H2
    have hf' : (fe != 0) = true := by simpa using hf
    have HF := zH hf
    clear hf
    go_enter Tryz.func152, Tryz.ntmps152
    go_wp2_with fail
    refine (oFew_any _ _).mono ?_
    rintro e w1 ⟨rfl, hb⟩
    rw [HFE.out]
    have HB := zH (bThen (bAlloc (bSelf w) _) hb)
    clear hb
    go_wp2_with fail
    go_ret2
    exact ⟨rfl, HB.out⟩
end
section
open Go.RowKit

/-- Points of a line that does not fall: at most 8, the first at 0. -/
structure LinOk (l : List (Int × Int)) : Prop where
  two : 2 ≤ l.length
  few : l.length ≤ 8
  v0 : (fg l 0).1 = 0
  vol : ∀ k, k < l.length → 0 ≤ (fg l k).1 ∧ (fg l k).1 ≤ 1000
  prs : ∀ k, k < l.length → 0 ≤ (fg l k).2 ∧ (fg l k).2 ≤ 1000
  up : ∀ k, k + 1 < l.length → (fg l k).1 < (fg l (k + 1)).1 ∧ (fg l k).2 ≤ (fg l (k + 1)).2
theorem LinOk.mono {l : List (Int × Int)} (h : LinOk l) {i : Nat} : ∀ {d : Nat}, i + d < l.length → (fg l i).1 + d ≤ (fg l (i + d)).1 ∧ (fg l i).2 ≤ (fg l (i + d)).2
  | 0, _ => by simp
  | d + 1, hd => by
    have h1 := h.mono (i := i) (d := d) (by omega)
    have h2 := h.up (i + d) (by omega)
    rw [show i + (d + 1) = i + d + 1 by omega]
    omega
theorem LinOk.leP {l : List (Int × Int)} (h : LinOk l) {i j : Nat} (hij : i ≤ j) (hj : j < l.length) : (fg l i).2 ≤ (fg l j).2 := by
  obtain ⟨d, rfl⟩ := Nat.exists_eq_add_of_le hij
  have := (h.mono (i := i) (d := d) hj).2; omega
end
section
set_option maxRecDepth 100000
set_option maxHeartbeats 1600000
open Go.RowKit
attribute [local go_sem] Oper.semAt_some

theorem on1_any (v q x : Int) (px : Nat) (w : World) (hx : Blk w px #[.int .i64 x]) :
    Calls Tryz.prog 167 #[.agg #[.int .i64 v, .int .i64 q], .pointer (some ⟨px, 0, none⟩)] w fun e w' => e = .returned (.bool (decide (x ≤ v))) ∧ Below w.heap.size w w' := by
  obtain ⟨hpx, kx, -⟩ := hx
  go_enter Tryz.func167, Tryz.ntmps167
  go_wp2_with fail
  go_ret
  exact ⟨rfl, bAlloc (bSelf w) _⟩

abbrev ixB (l : List (Int × Int)) (x : Int) (j : Nat) : Bool := decide (x ≤ (fg l j).1)
/-- slices.IndexFunc's answer. -/
def idxI (i n : Nat) : Int := if i < n then (i : Int) else -1

theorem idxC_any (l : List (Int × Int)) (x : Int) (a : Option Addr) (cap px : Nat) (w : World) (hlen : l.length ≤ 100000) (hx : Blk w px #[.int .i64 x]) (hr : Reads w a (l.length * 2) (fracs l)) :
    Calls Tryz.prog 166 #[.slice a l.length cap, .func (.func 167) #[] #[.pointer (some ⟨px, 0, none⟩)]] w fun e w' => e = .returned (.int .i64 (idxI (ptI l x) l.length)) ∧ Below w.heap.size w w' := by
  have HR := zH hr
  have HX := zH hx
  have HP : Hid (ptI l x = ixF (ixB l x) 0 l.length) := zH rfl
  obtain ⟨pi, hpi⟩ : ∃ i, ptI l x = i := ⟨_, rfl⟩
  rw [hpi] at HP ⊢
  clear hr hx hpi
  go_enter Tryz.func166, Tryz.ntmps166
  go_wp2_with fail
  go_loopw [5, 8] (fun _ i wr => ∃ k : Nat, k ≤ l.length ∧ i = .int .i64 k ∧ Hid (pi = ixF (ixB l x) k (l.length - k)) ∧ Hid (Below w.heap.size w wr)) (fun _ i _ => l.length - (intOf i).toNat)
  case atStart => exact ⟨0, Nat.zero_le _, rfl, HP, zH (bSelf w)⟩
  case round =>
    obtain ⟨k, hk, rfl, hi, hI⟩ := hrel
    by_cases hlt : k < l.length
    · obtain ⟨b, off, rfl, hb, hc⟩ := (HR.out.to hI.out).at (k := k * 2) (by omega)
      have c0 : wr.cell? ⟨b, off + k * 2, none⟩ = some (.int .i64 (fg l k).1) := by have := hc (k * 2) (by omega); rw [fracs0] at this; exact this
      have c1 : wr.cell? ⟨b, off + k * 2 + 1, none⟩ = some (.int .i64 (fg l k).2) := by have := hc (k * 2 + 1) (by omega); rw [fracs1] at this; exact this
      have HX1 := zH (HX.out.to hI.out)
      clear hc
      cases hz : ixB l x k
      · have hz' : decide (x ≤ (fg l k).1) = false := hz
        have HS := zH (ixF_step hlt hz)
        have HZ := zH hz'
        clear hz hz'
        go_wp2_with (go_at_call 167; refine (on1_any _ _ x px _ HX1.out).mono ?_; rintro e w' ⟨rfl, hb'⟩; rw [HZ.out]; have hb' := zH hb')
        go_roundw
        case rel => exact ⟨k + 1, by omega, by go_num, zH (hi.out.trans HS.out), zH (bThen hI.out hb'.out)⟩
        case measure => simp [intOf]; omega
      · have hz' : decide (x ≤ (fg l k).1) = true := hz
        have HS := zH (ixF_stop hlt hz)
        have HZ := zH hz'
        clear hz hz'
        go_wp2_with (go_at_call 167; refine (on1_any _ _ x px _ HX1.out).mono ?_; rintro e w' ⟨rfl, hb'⟩; rw [HZ.out]; have hb' := zH hb')
        go_ret
        exact ⟨ret_int (by rw [hi.out, HS.out]; unfold idxI; rw [if_pos hlt]), bThen hI.out hb'.out⟩
    · have : k = l.length := by omega
      subst this
      go_wp2
      go_ret
      exact ⟨ret_int (by rw [hi.out, Nat.sub_self]; unfold idxI ixF; rw [if_neg (by omega)]), hI.out⟩

/-- A line of which the value at a number is asked. -/
structure OnOk (l : List (Int × Int)) (x : Int) : Prop where
  few : l.length ≤ 1000
  lt : ptI l x < l.length
  pos : (fg l (ptI l x)).1 ≠ x → 0 < ptI l x
  x0 : 0 ≤ x ∧ x ≤ 1000
  bd : ∀ k, k < l.length → 0 ≤ (fg l k).1 ∧ (fg l k).1 ≤ 1000 ∧ 0 ≤ (fg l k).2 ∧ (fg l k).2 ≤ 1000
theorem OnOk.of_pts {l : List (Int × Int)} {x : Int} (h : PtsOk l) (h0 : 0 ≤ x) (h1 : x ≤ capV l) : OnOk l x where
  few := by have := h.few; omega
  lt := ptI_lt h h1
  pos hne := by
    rcases Nat.eq_zero_or_pos (ptI l x) with e | e
    · have h2 := ptI_ge h h1
      rw [e, h.v0] at h2
      rw [e, h.v0] at hne
      omega
    · exact e
  x0 := ⟨h0, by have := (h.vol (l.length - 1) (by have := h.two; omega)).2; unfold capV at h1; omega⟩
  bd k hk := by have := h.vol k hk; have := h.prs k hk; omega

theorem on_any (l : List (Int × Int)) (x : Int) (a : Option Addr) (cap : Nat) (w : World) (ho : OnOk l x) (hr : Reads w a (l.length * 2) (fracs l)) :
    Calls Tryz.prog 135 #[.slice a l.length cap, .int .i64 x] w fun e w' => e = .returned (.agg #[.int .i64 (prQ l x).1, .int .i64 (prQ l x).2]) ∧ Below w.heap.size w w' := by
  obtain ⟨hfew, hlt, hpos, ⟨hx0, hx1⟩, hbd⟩ := ho
  have HI := zH (fun W px (hb : Below w.heap.size w W) (hx : Blk W px #[.int .i64 x]) => idxC_any l x a cap px W (by omega) hx (hr.to hb))
  have HQ : Hid (prQ l x = if (fg l (ptI l x)).1 = x then ((fg l (ptI l x)).2, 1) else segQ (fg l (ptI l x - 1)) (fg l (ptI l x)) x) := zH rfl
  obtain ⟨i, hi⟩ : ∃ i, ptI l x = i := ⟨_, rfl⟩
  have hix : idxI i l.length = i := by unfold idxI; rw [← hi, if_pos hlt]
  rw [hi] at HI HQ hlt hpos
  rw [hix] at HI
  clear hi hix
  obtain ⟨b1, hb1'⟩ : ∃ v, (fg l i).1 = v := ⟨_, rfl⟩
  obtain ⟨b2, hb2'⟩ : ∃ v, (fg l i).2 = v := ⟨_, rfl⟩
  obtain ⟨b, off, rfl, hb, hc⟩ := hr.at (k := i * 2) (by omega)
  have C0 : Hid (w.cell? ⟨b, off + i * 2, none⟩ = some (.int .i64 b1)) := zH (by have := hc (i * 2) (by omega); rw [fracs0, hb1'] at this; exact this)
  have C1 : Hid (w.cell? ⟨b, off + i * 2 + 1, none⟩ = some (.int .i64 b2)) := zH (by have := hc (i * 2 + 1) (by omega); rw [fracs1, hb2'] at this; exact this)
  obtain ⟨u0, u1, u2, u3⟩ := hbd i hlt
  rw [hb1'] at u0 u1 hpos
  rw [hb2'] at u2 u3
  obtain ⟨N, hN⟩ : ∃ n, l.length = n := ⟨_, rfl⟩
  by_cases he : b1 = x
  · have hq : prQ l x = (b2, 1) := by rw [HQ.out, if_pos (hb1'.trans he), hb2']
    rw [hq]
    rw [hN] at hlt hfew HI ⊢
    subst he
    clear HQ hq hb1' hb2' hr hc hbd hpos hN
    go_enter Tryz.func135, Tryz.ntmps135
    go_wp2_with fail
    obtain ⟨W, hW⟩ : ∃ W, (w.alloc (.cells #[.int .i64 b1] 3)).alloc (.cells #[.int .i64 0, .int .i64 0] 167) = W := ⟨_, rfl⟩
    rw [hW]
    have K0 : Hid (Blk W w.heap.size #[.int .i64 b1]) := by subst hW; exact zH ((Blk.new _ _ _).alloc _)
    have K1 : Hid (Blk W (w.heap.size + 1) #[.int .i64 0, .int .i64 0]) := by subst hW; exact zH (Blk.newAt _ _ _ (by simp))
    have HB : Hid (Below w.heap.size w W) := by subst hW; exact zH (bAlloc (bAlloc (bSelf w) _) _)
    clear hW
    refine (HI.out W _ HB.out K0.out).mono ?_
    rintro e w2 ⟨rfl, hb2⟩
    replace K0 := zH (K0.out.to hb2)
    replace K1 := zH (K1.out.to hb2)
    replace HB := zH (bThen HB.out hb2)
    clear hb2 HI
    have k0 : w2.cell? ⟨b, off + i * 2, none⟩ = some (.int .i64 b1) := (HB.out.cell (p := ⟨b, off + i * 2, none⟩) hb).trans C0.out
    have k1 : w2.cell? ⟨b, off + i * 2 + 1, none⟩ = some (.int .i64 b2) := (HB.out.cell (p := ⟨b, off + i * 2 + 1, none⟩) hb).trans C1.out
    obtain ⟨hs0, kx, -⟩ := K0.out
    obtain ⟨hs1, kp, fp⟩ := K1.out
    go_wp2_with fail
    have F := (((K1.out.set 0 (.int .i64 b2)).set 1 (.int .i64 1)).alloc (.cells #[.int .i64 b1, .int .i64 b2] 219))
    have F0 := F.2.1 0
    have F1 := F.2.1 1
    clear F k0 k1 kx kp fp
    refine bodyPost_ret (v := .agg #[.int .i64 b2, .int .i64 1]) ?_ rfl ⟨rfl, ?_⟩
    · simp [results, Tryz.results135, go_sem, F0, F1]
    · exact bAlloc ((HB.out.setCell (p := ⟨w.heap.size + 1, 0, none⟩) (Nat.le_succ _) _).setCell (p := ⟨w.heap.size + 1, 1, none⟩) (Nat.le_succ _) _) _
  · have hi0 := hpos he
    obtain ⟨j, rfl⟩ : ∃ j, i = j + 1 := ⟨i - 1, by omega⟩
    obtain ⟨a1, ha1'⟩ : ∃ v, (fg l j).1 = v := ⟨_, rfl⟩
    obtain ⟨a2, ha2'⟩ : ∃ v, (fg l j).2 = v := ⟨_, rfl⟩
    have hq : prQ l x = (a2 * (b1 - a1) + (b2 - a2) * (x - a1), b1 - a1) := by rw [HQ.out, if_neg (fun h => he (hb1'.symm.trans h)), Nat.add_sub_cancel]; unfold segQ; rw [hb1', hb2', ha1', ha2']
    rw [hq]
    have D0 : Hid (w.cell? ⟨b, off + j * 2, none⟩ = some (.int .i64 a1)) := zH (by have := hc (j * 2) (by omega); rw [fracs0, ha1'] at this; exact this)
    have D1 : Hid (w.cell? ⟨b, off + j * 2 + 1, none⟩ = some (.int .i64 a2)) := zH (by have := hc (j * 2 + 1) (by omega); rw [fracs1, ha2'] at this; exact this)
    obtain ⟨t0, t1, t2, t3⟩ := hbd j (by omega)
    rw [ha1'] at t0 t1
    rw [ha2'] at t2 t3
    have hp := mul_bd (a := a2) (b := b1 - a1) (A := 1000) (B := 1000) (by omega) (by omega) (by omega) (by omega)
    obtain ⟨p1, p2⟩ := hp
    have hp := mul_bd (a := b2 - a2) (b := x - a1) (A := 1000) (B := 1000) (by omega) (by omega) (by omega) (by omega)
    obtain ⟨p3, p4⟩ := hp
    have he' : (b1 == x) = false := by rw [beq_eq_false_iff_ne]; exact he
    have hjlt : j < N := by omega
    rw [hN] at hlt hfew HI ⊢
    clear HQ hq hb1' hb2' ha1' ha2' hr hc hbd hpos hi0 hN
    go_enter Tryz.func135, Tryz.ntmps135
    go_wp2_with fail
    obtain ⟨W, hW⟩ : ∃ W, (w.alloc (.cells #[.int .i64 x] 3)).alloc (.cells #[.int .i64 0, .int .i64 0] 167) = W := ⟨_, rfl⟩
    rw [hW]
    have K0 : Hid (Blk W w.heap.size #[.int .i64 x]) := by subst hW; exact zH ((Blk.new _ _ _).alloc _)
    have K1 : Hid (Blk W (w.heap.size + 1) #[.int .i64 0, .int .i64 0]) := by subst hW; exact zH (Blk.newAt _ _ _ (by simp))
    have HB : Hid (Below w.heap.size w W) := by subst hW; exact zH (bAlloc (bAlloc (bSelf w) _) _)
    clear hW
    refine (HI.out W _ HB.out K0.out).mono ?_
    rintro e w2 ⟨rfl, hb2⟩
    replace K0 := zH (K0.out.to hb2)
    replace K1 := zH (K1.out.to hb2)
    replace HB := zH (bThen HB.out hb2)
    clear hb2 HI
    have k0 : w2.cell? ⟨b, off + (j + 1) * 2, none⟩ = some (.int .i64 b1) := (HB.out.cell (p := ⟨b, off + (j + 1) * 2, none⟩) hb).trans C0.out
    have k1 : w2.cell? ⟨b, off + (j + 1) * 2 + 1, none⟩ = some (.int .i64 b2) := (HB.out.cell (p := ⟨b, off + (j + 1) * 2 + 1, none⟩) hb).trans C1.out
    have k2 : (w2.alloc (.cells #[.int .i64 b1, .int .i64 b2] 219)).cell? ⟨b, off + j * 2, none⟩ = some (.int .i64 a1) := ((bAlloc HB.out _).cell (p := ⟨b, off + j * 2, none⟩) hb).trans D0.out
    have k3 : (w2.alloc (.cells #[.int .i64 b1, .int .i64 b2] 219)).cell? ⟨b, off + j * 2 + 1, none⟩ = some (.int .i64 a2) := ((bAlloc HB.out _).cell (p := ⟨b, off + j * 2 + 1, none⟩) hb).trans D1.out
    obtain ⟨hs0, kx, -⟩ := K0.out
    obtain ⟨hs1, kp, fp⟩ := K1.out
    go_wp2_with fail
    have F := ((((K1.out.set 0 (.int .i64 (a2 * (b1 - a1) + (b2 - a2) * (x - a1)))).set 1 (.int .i64 (b1 - a1))).alloc (.cells #[.int .i64 b1, .int .i64 b2] 219)).alloc (.cells #[.int .i64 a1, .int .i64 a2] 219))
    have F0 := F.2.1 0
    have F1 := F.2.1 1
    clear F k0 k1 k2 k3 kx kp fp
    refine bodyPost_ret (v := .agg #[.int .i64 (a2 * (b1 - a1) + (b2 - a2) * (x - a1)), .int .i64 (b1 - a1)]) ?_ rfl ⟨rfl, ?_⟩
    · simp [results, Tryz.results135, go_sem, F0, F1]
    · exact bAlloc (bAlloc ((HB.out.setCell (p := ⟨w.heap.size + 1, 0, none⟩) (Nat.le_succ _) _).setCell (p := ⟨w.heap.size + 1, 1, none⟩) (Nat.le_succ _) _) _) _
end
end Go.Proofs.YtbpcapcgbnbknaaGreat
