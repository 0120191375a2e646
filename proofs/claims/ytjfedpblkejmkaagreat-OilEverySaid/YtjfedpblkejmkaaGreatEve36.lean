/-
  Texts of this claim, in their build order: OM14 OM16.
-/
import Derived.Test.YtjfedpblkejmkaaGreatEve15
import Derived.Test.YtjfedpblkejmkaaGreatEve16

/-
  CheckValve.
-/
namespace Go.Proofs.YtjfedpblkejmkaaGreat
open Go.RowKit
attribute [local go_sem] Oper.semAt_some

def ordV (l : List (Int × Int × Int)) (k : Nat) : Bool := if k = 0 then (vg l 0).1 == 0 else decide ((vg l (k - 1)).1 < (vg l k).1) && decide ((vg l (k - 1)).2.1 ≤ (vg l k).2.1) && decide ((vg l (k - 1)).2.2 ≤ (vg l k).2.2)
def vlE (l : List (Int × Int × Int)) (k : Nat) : Int := firstE [unl (wthn (vg l k).1 0 1000 && wthn (vg l k).2.1 0 50 && wthn (vg l k).2.2 0 50) 2, unl (decide ((vg l k).2.1 ≤ (vg l k).2.2) && ordV l k) 9]
/-- The index and the error of a valve. -/
def chVl (l : List (Int × Int × Int)) : Int × Int := if fewE l.length ≠ 0 then (0, fewE l.length) else eachR (vlE l) 0 l.length
theorem vWithin_any (v : Int) (b : Bool) (hb : wthn v 0 1000 = b) (w : World) : Calls Tryz.prog 99 #[.int .i64 v, .int .i64 0, .int .i64 1000] w fun e w' => e = .returned (.bool b) ∧ w = w' := by
  subst hb; exact oWithin_any v 0 1000 w
theorem vFlow_any (v : Int) (b : Bool) (hb : wthn v 0 50 = b) (w : World) : Calls Tryz.prog 108 #[.int .i64 v] w fun e w' => e = .returned (.bool b) ∧ w = w' := by
  subst hb; exact isFlow_any v w

set_option maxHeartbeats 12800000 in
set_option maxRecDepth 100000 in
theorem vl1_zero (l : List (Int × Int × Int)) (bp : Nat) (w : World) :
    Calls Tryz.prog 113 #[.int .i64 0, .agg #[.int .i64 (vg l 0).1, .int .i64 (vg l 0).2.1, .int .i64 (vg l 0).2.2], .pointer (some ⟨bp, 0, none⟩)] w fun e w' => e = .returned (.int .i64 (vlE l 0)) ∧ Below w.heap.size w w' := by
  have HE : Hid (firstE [unl (wthn (vg l 0).1 0 1000 && wthn (vg l 0).2.1 0 50 && wthn (vg l 0).2.2 0 50) 2, unl (decide ((vg l 0).2.1 ≤ (vg l 0).2.2) && ordV l 0) 9] = vlE l 0) := Lib.hid rfl
  obtain ⟨pe, hpe⟩ : ∃ e, vlE l 0 = e := ⟨_, rfl⟩
  rw [hpe] at HE ⊢
  clear hpe
  have ho : ordV l 0 = ((vg l 0).1 == 0) := by unfold ordV; rw [if_pos rfl]
  rw [ho] at HE
  obtain ⟨⟨v, q, h⟩, hv⟩ : ∃ v, vg l 0 = v := ⟨_, rfl⟩
  rw [hv] at HE ⊢
  clear hv ho
  dsimp only at HE ⊢
  obtain ⟨c, hc⟩ : ∃ b, wthn h 0 50 = b := ⟨_, rfl⟩
  rw [hc] at HE
  have HC := Lib.hid (fun W => vFlow_any h c hc W)
  clear hc
  cases hz : v == 0
  all_goals
    cases hvo : wthn v 0 1000
  all_goals
    cases hqo : wthn q 0 50
  all_goals
    cases hqh : decide (q ≤ h)
  all_goals
    rw [hz, hvo, hqo, hqh] at HE
    have HV := Lib.hid (fun W => vWithin_any v _ hvo W)
    have HQ := Lib.hid (fun W => vFlow_any q _ hqo W)
    clear hvo hqo
    go_enter Tryz.func113, Tryz.ntmps113
    go_wp2_with fail
    obtain ⟨W1, hW1⟩ : ∃ W1, w.alloc (.cells #[.int .i64 v, .int .i64 q, .int .i64 h] 90) = W1 := ⟨_, rfl⟩
    rw [hW1]
    have K4 : Hid (Blk W1 w.heap.size #[.int .i64 v, .int .i64 q, .int .i64 h]) := by subst hW1; exact Lib.hid (Blk.new _ _ _)
    have HB : Hid (Below w.heap.size w W1) := by subst hW1; exact Lib.hid (bAlloc (bSelf w) _)
    clear hW1
    refine wp_region_quiet_tail 23 (fun w' => Below (World.heap W1).size (W1) w') (by kernel_rfl) (by kernel_rfl) (Below.refl _ _).drew ?_
    simp only [List.take_succ_cons, List.take_zero, List.drop_succ_cons, List.drop_zero]
    refine WQ.out ?_
    repeat (first | (refine WQ_no (by rfl) ?_; (simp only [Act.put, List.setIfInBounds_toArray, List.set_cons_zero, List.set_cons_succ])) | (refine WQ_yes (by rfl) ?_; apply Exists.intro; refine ⟨fun w1 hb1 => ?_, ?_⟩; (focus (((obtain ⟨-, k4, -⟩ := K4.out.to hb1); have hb1 := Lib.hid hb1; go_simp); (try (go_bits; try go_simp)); (try (rw [if_pos (by omega)]; try go_simp)); (first | done | ((first | (go_at_call 99; refine (HV.out _).mono ?_; rintro e w' ⟨rfl, rfl⟩; exact ⟨rfl, hb1.out⟩) | (go_at_call 108; refine (HQ.out _).mono ?_; rintro e w' ⟨rfl, rfl⟩; exact ⟨rfl, hb1.out⟩) | (go_at_call 108; refine (HC.out _).mono ?_; rintro e w' ⟨rfl, rfl⟩; exact ⟨rfl, hb1.out⟩) | (go_at_call 94; refine (oUnless_any _ _ _).mono ?_; rintro e w' ⟨rfl, rfl⟩; exact ⟨rfl, hb1.out⟩))) | (with_reducible rfl) | exact rfl))); (simp only [Act.put, List.setIfInBounds_toArray, List.set_cons_zero, List.set_cons_succ])))
    refine WQ_nil ?_
    intro w1 hb1
    go_wp2_with fail
    refine (oFirst2_new _ _ _ _ (by simp)).mono ?_
    rintro e w' ⟨rfl, rfl⟩
    go_wp2_with fail
    go_ret
    exact ⟨ret_int (by rw [← HE.out]; first | rfl | simp), bAlloc (bThen HB.out hb1) _⟩

set_option maxHeartbeats 12800000 in
set_option maxRecDepth 100000 in
theorem vl1_succ (l : List (Int × Int × Int)) (a : Option Addr) (cap j bp : Nat) (w : World) (hk : j + 1 < l.length) (hlen : l.length ≤ 100000) (hp : Blk w bp #[.slice a l.length cap]) (hr : Reads w a (l.length * 3) (flws l)) :
    Calls Tryz.prog 113 #[.int .i64 ((j + 1 : Nat) : Int), .agg #[.int .i64 (vg l (j + 1)).1, .int .i64 (vg l (j + 1)).2.1, .int .i64 (vg l (j + 1)).2.2], .pointer (some ⟨bp, 0, none⟩)] w fun e w' => e = .returned (.int .i64 (vlE l (j + 1))) ∧ Below w.heap.size w w' := by
  have HE : Hid (firstE [unl (wthn (vg l (j + 1)).1 0 1000 && wthn (vg l (j + 1)).2.1 0 50 && wthn (vg l (j + 1)).2.2 0 50) 2, unl (decide ((vg l (j + 1)).2.1 ≤ (vg l (j + 1)).2.2) && ordV l (j + 1)) 9] = vlE l (j + 1)) := Lib.hid rfl
  obtain ⟨pe, hpe⟩ : ∃ e, vlE l (j + 1) = e := ⟨_, rfl⟩
  rw [hpe] at HE ⊢
  clear hpe
  have ho : ordV l (j + 1) = (decide ((vg l j).1 < (vg l (j + 1)).1) && decide ((vg l j).2.1 ≤ (vg l (j + 1)).2.1) && decide ((vg l j).2.2 ≤ (vg l (j + 1)).2.2)) := by unfold ordV; rw [if_neg (by omega), Nat.add_sub_cancel]
  rw [ho] at HE
  obtain ⟨⟨v, q, h⟩, hv⟩ : ∃ v, vg l (j + 1) = v := ⟨_, rfl⟩
  obtain ⟨⟨v', q', h'⟩, hv'⟩ : ∃ v, vg l j = v := ⟨_, rfl⟩
  rw [hv, hv'] at HE
  rw [hv]
  obtain ⟨b, off, rfl, hb, hc⟩ := hr.at (k := j * 3) (by omega)
  have c0 : w.cell? ⟨b, off + j * 3, none⟩ = some (.int .i64 v') := by have := hc (j * 3) (by omega); rw [flws0, hv'] at this; exact this
  have c1 : w.cell? ⟨b, off + j * 3 + 1, none⟩ = some (.int .i64 q') := by have := hc (j * 3 + 1) (by omega); rw [flws1, hv'] at this; exact this
  have c2 : w.cell? ⟨b, off + j * 3 + 1 + 1, none⟩ = some (.int .i64 h') := by have := hc (j * 3 + 1 + 1) (by omega); rw [flws2, hv'] at this; exact this
  obtain ⟨hbp, kp, -⟩ := hp
  have hj : j < l.length := by omega
  obtain ⟨n, hn⟩ : ∃ n, l.length = n := ⟨_, rfl⟩
  rw [hn] at hj hlen kp
  clear hv hv' ho hr hc hn hk
  dsimp only at HE ⊢
  obtain ⟨c, hc⟩ : ∃ b, wthn h 0 50 = b := ⟨_, rfl⟩
  rw [hc] at HE
  have HC := Lib.hid (fun W => vFlow_any h c hc W)
  clear hc
  have hz : (decide (v' < v) = false) ∨ (decide (v' < v) = true ∧ decide (q' ≤ q) = false) ∨ (decide (v' < v) = true ∧ decide (q' ≤ q) = true) := by
    cases decide (v' < v) <;> cases decide (q' ≤ q) <;> simp
  rcases hz with z1 | ⟨z1, z2⟩ | ⟨z1, z2⟩
  all_goals
    cases hvo : wthn v 0 1000
  all_goals
    cases hqo : wthn q 0 50
  all_goals
    cases hqh : decide (q ≤ h)
  all_goals
    rw [hvo, hqo, hqh, z1] at HE
    try rw [z2] at HE
    have HV := Lib.hid (fun W => vWithin_any v _ hvo W)
    have HQ := Lib.hid (fun W => vFlow_any q _ hqo W)
    clear hvo hqo
    go_enter Tryz.func113, Tryz.ntmps113
    go_wp2_with fail
    obtain ⟨W1, hW1⟩ : ∃ W1, (w.alloc (.cells #[.int .i64 v, .int .i64 q, .int .i64 h] 90)).alloc (.cells #[.int .i64 v', .int .i64 q', .int .i64 h'] 90) = W1 := ⟨_, rfl⟩
    rw [hW1]
    have K4 : Hid (Blk W1 w.heap.size #[.int .i64 v, .int .i64 q, .int .i64 h]) := by subst hW1; exact Lib.hid ((Blk.new _ _ _).alloc _)
    have HB : Hid (Below w.heap.size w W1) := by subst hW1; exact Lib.hid (bAlloc (bAlloc (bSelf w) _) _)
    clear hW1 c0 c1 c2 kp
    refine wp_region_quiet_tail 23 (fun w' => Below (World.heap W1).size (W1) w') (by kernel_rfl) (by kernel_rfl) (Below.refl _ _).drew ?_
    simp only [List.take_succ_cons, List.take_zero, List.drop_succ_cons, List.drop_zero]
    refine WQ.out ?_
    repeat (first | (refine WQ_no (by rfl) ?_; (simp only [Act.put, List.setIfInBounds_toArray, List.set_cons_zero, List.set_cons_succ])) | (refine WQ_yes (by rfl) ?_; apply Exists.intro; refine ⟨fun w1 hb1 => ?_, ?_⟩; (focus (((obtain ⟨-, k4, -⟩ := K4.out.to hb1); have hb1 := Lib.hid hb1; go_simp); (try (go_bits; try go_simp)); (try (rw [if_pos (by omega)]; try go_simp)); (first | done | ((first | (go_at_call 99; refine (HV.out _).mono ?_; rintro e w' ⟨rfl, rfl⟩; exact ⟨rfl, hb1.out⟩) | (go_at_call 108; refine (HQ.out _).mono ?_; rintro e w' ⟨rfl, rfl⟩; exact ⟨rfl, hb1.out⟩) | (go_at_call 108; refine (HC.out _).mono ?_; rintro e w' ⟨rfl, rfl⟩; exact ⟨rfl, hb1.out⟩) | (go_at_call 94; refine (oUnless_any _ _ _).mono ?_; rintro e w' ⟨rfl, rfl⟩; exact ⟨rfl, hb1.out⟩))) | (with_reducible rfl) | exact rfl))); (simp only [Act.put, List.setIfInBounds_toArray, List.set_cons_zero, List.set_cons_succ])))
    refine WQ_nil ?_
    intro w1 hb1
    go_wp2_with fail
    refine (oFirst2_new _ _ _ _ (by simp)).mono ?_
    rintro e w' ⟨rfl, rfl⟩
    go_wp2_with fail
    go_ret
    exact ⟨ret_int (by rw [← HE.out]; first | rfl | simp), bAlloc (bThen HB.out hb1) _⟩

end Go.Proofs.YtjfedpblkejmkaaGreat

/-
  CheckValve, whole.
-/
namespace Go.Proofs.YtjfedpblkejmkaaGreat
open Go.RowKit
attribute [local go_sem] Oper.semAt_some

theorem vl1_any (l : List (Int × Int × Int)) (a : Option Addr) (cap k bp : Nat) (w : World) (hk : k < l.length) (hlen : l.length ≤ 100000) (hp : Blk w bp #[.slice a l.length cap]) (hr : Reads w a (l.length * 3) (flws l)) :
    Calls Tryz.prog 113 #[.int .i64 k, .agg #[.int .i64 (vg l k).1, .int .i64 (vg l k).2.1, .int .i64 (vg l k).2.2], .pointer (some ⟨bp, 0, none⟩)] w fun e w' => e = .returned (.int .i64 (vlE l k)) ∧ Below w.heap.size w w' := by
  rcases k with _ | j
  · exact vl1_zero l bp w
  · exact vl1_succ l a cap j bp w hk hlen hp hr

set_option maxHeartbeats 1600000 in
set_option maxRecDepth 100000 in
theorem CheckValve_any (l : List (Int × Int × Int)) (a : Option Addr) (cap : Nat) (w : World) (hlen : l.length ≤ 100000) (hr : Reads w a (l.length * 3) (flws l)) :
    Calls Tryz.prog 44 #[.slice a l.length cap] w fun e w' => e = .returned (.tuple #[.int .i64 (chVl l).1, .int .i64 (chVl l).2]) ∧ Below w.heap.size w w' := by
  have HEA := Lib.hid (fun W bp (hp : Blk W bp #[.slice a l.length cap]) (hb : Below w.heap.size w W) => eachFl_any l a cap 113 #[.pointer (some ⟨bp, 0, none⟩)] W (vlE l) (fun _ W' => Blk W' bp #[.slice a l.length cap] ∧ Below w.heap.size w W') hlen (by intro args w; go_simp) ⟨hp, hb⟩ (fun _ W' _ h => hr.to h.2) (fun _ W' o h => ⟨h.1.alloc o, bAlloc h.2 o⟩)
    (fun k W' hk h => (vl1_any l a cap k bp W' hk hlen h.1 (hr.to h.2)).mono fun e w'' ⟨he, hb'⟩ => ⟨he, h.1.to hb', bThen h.2 hb'⟩))
  have H1 : Hid (chVl l = if fewE l.length ≠ 0 then (0, fewE l.length) else eachR (vlE l) 0 l.length) := Lib.hid rfl
  obtain ⟨⟨c1, c2⟩, hch⟩ : ∃ c, chVl l = c := ⟨_, rfl⟩
  rw [hch] at H1 ⊢
  clear hch
  obtain ⟨⟨e1, e2⟩, her⟩ : ∃ e, eachR (vlE l) 0 l.length = e := ⟨_, rfl⟩
  rw [her] at H1 HEA
  clear her
  obtain ⟨n, hn⟩ : ∃ n, l.length = n := ⟨_, rfl⟩
  rw [hn] at HEA H1 hlen ⊢
  obtain ⟨fe, hfe⟩ : ∃ e, fewE (n : Int) = e := ⟨_, rfl⟩
  have HFE := Lib.hid hfe
  rw [hfe] at H1
  clear hfe hr hn
  dsimp only at HEA ⊢
  by_cases hf : fe = 0
  · have hc : (c1, c2) = (e1, e2) := by rw [H1.out, if_neg (by simpa using hf)]
    injection hc with h1 h2
    subst h1 h2
    clear H1
    go_enter Tryz.func44, Tryz.ntmps44
    go_wp2_with fail
    refine (oFew_any _ _).mono ?_
    rintro e w1 ⟨rfl, hb⟩
    rw [HFE.out, hf]
    have K0 : Hid (Blk w1 w.heap.size #[.slice a n cap]) := Lib.hid ((Blk.new _ _ _).to hb)
    have HB := Lib.hid (bThen (bAlloc (bSelf w) _) hb)
    clear hb
    obtain ⟨-, k0, -⟩ := K0.out
    go_wp2_with fail
    refine (HEA.out w1 _ K0.out HB.out).mono ?_
    rintro e w2 ⟨rfl, kk, -, ⟨hk0, hbb⟩, -⟩
    replace HB := Lib.hid hbb
    clear hk0 hbb k0
    go_wp2_with fail
    go_ret2
    exact ⟨rfl, HB.out⟩
  · have hc : (c1, c2) = (0, fe) := by rw [H1.out, if_pos hf]
    injection hc with h1 h2
    subst h1 h2
    clear H1
    have hf' : (c2 != 0) = true := by simpa using hf
    have HF := Lib.hid hf
    clear hf
    go_enter Tryz.func44, Tryz.ntmps44
    go_wp2_with fail
    refine (oFew_any _ _).mono ?_
    rintro e w1 ⟨rfl, hb⟩
    rw [HFE.out]
    have HB := Lib.hid (bThen (bAlloc (bSelf w) _) hb)
    clear hb
    go_wp2_with fail
    go_ret2
    exact ⟨rfl, HB.out⟩

end Go.Proofs.YtjfedpblkejmkaaGreat

