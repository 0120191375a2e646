/-
  Texts of this claim, in their build order: OM7.
-/
import Derived.Test.YtbpcapcgbnbknaaGreatOne34
import Derived.Test.YtbpcapcgbnbknaaGreatOne29
import Derived.Test.YtbpcapcgbnbknaaGreatOne0

namespace Go.Proofs.YtbpcapcgbnbknaaGreat
section
set_option maxRecDepth 100000
set_option maxHeartbeats 1600000
open Go.RowKit
attribute [local go_sem] Oper.semAt_some

theorem wit1_any (p : Plt) (t : OSt) (lim : Int) (a al da : Option Addr) (cap cl dn dc px py : Nat) (w : World) (hp : PltOk p) (ht : StOk p t) (hlim : Nin lim)
    (hP : Blk w px (plL p a cap al cl)) (hL : Blk w py #[.int .i64 lim]) (hr : Reads w al (p.pts.length * 2) (fracs p.pts)) :
    Calls Tryz.prog 130 #[.agg #[.int .i64 t.1, .bool t.2, .slice da dn dc], .pointer (some ⟨px, 0, none⟩), .pointer (some ⟨py, 0, none⟩)] w fun e w' => e = .returned (.bool (blwQ p lim t)) ∧ Below w.heap.size w w' := by
  have HPR := zH (fun W (hb : Below w.heap.size w W) => pressure_any p t.1 a al cap cl W (OnOk.of_pts hp.pts ht.1 ht.2) (hr.to hb))
  have HQ := QOk.of_pts hp.pts ht.1 ht.2
  have HBL := zH (fun W => oBelow_any (prQ p.pts t.1) lim W ⟨by have := HQ.n0; omega, by have := HQ.n1; omega⟩ ⟨by have := HQ.d0; omega, by have := HQ.d1; omega⟩ hlim)
  obtain ⟨rb, hrb⟩ : ∃ b, blwQ p lim t = b := ⟨_, rfl⟩
  have HR : Hid (lessQ (prQ p.pts t.1) (lim, 1) = rb) := zH hrb
  rw [HR.out] at HBL
  rw [hrb]
  obtain ⟨⟨q1, q2⟩, hq⟩ : ∃ q, prQ p.pts t.1 = q := ⟨_, rfl⟩
  rw [hq] at HPR HBL
  obtain ⟨t1, t2⟩ := t
  have HP := zH hP
  have HL := zH hL
  obtain ⟨hsP, kP, -⟩ := hP
  obtain ⟨hsL, kL, -⟩ := hL
  obtain ⟨pts, pump, on, off'⟩ := p
  dsimp only [plL] at *
  obtain ⟨n, hn⟩ : ∃ n, pts.length = n := ⟨_, rfl⟩
  rw [hn] at HPR HP kP
  clear hrb HR hq HQ hr hp ht hlim hn
  go_enter Tryz.func130, Tryz.ntmps130
  go_wp2_with fail
  obtain ⟨W, hW⟩ : ∃ W, w.alloc (.cells #[.int .i64 t1, .bool t2, .slice da dn dc] 163) = W := ⟨_, rfl⟩
  rw [hW]
  have K3 : Hid (Blk W w.heap.size #[.int .i64 t1, .bool t2, .slice da dn dc]) := by subst hW; exact zH (Blk.new _ _ _)
  have KP := HP
  have KL := HL
  replace KP : Hid (Blk W px #[.slice a n cap, .int .i64 pump, .int .i64 on, .int .i64 off', .slice al n cl]) := by subst hW; exact zH (HP.out.alloc _)
  replace KL : Hid (Blk W py #[.int .i64 lim]) := by subst hW; exact zH (HL.out.alloc _)
  have HB : Hid (Below w.heap.size w W) := by subst hW; exact zH (bAlloc (bSelf w) _)
  clear hW kP kL HP HL
  refine wp_region_quiet_all (fun w' => Below (World.heap W).size (W) w') (by kernel_rfl) (by kernel_rfl) (Below.refl _ _).drew ?_
  refine WQ.out ?_
  repeat (first | (refine WQ_no (by rfl) ?_; (simp only [Act.put, zzT, zzO, zzS])) | (refine WQ_yes (by rfl) ?_; apply Exists.intro; refine ⟨fun w1 hb1 => ?_, ?_⟩; (focus (((obtain ⟨-, k3, -⟩ := K3.out.to hb1; obtain ⟨-, kp, -⟩ := KP.out.to hb1; obtain ⟨-, kl, -⟩ := KL.out.to hb1); have hb1 := zH hb1; go_simp); (try (go_bits; try go_simp)); (try (rw [if_pos (by omega)]; try go_simp)); (first | done | ((first | ((go_at_call 93); refine (HPR.out _ (bThen HB.out hb1.out)).mono ?_; rintro e w' ⟨rfl, hb⟩; exact ⟨rfl, bThen hb1.out hb⟩) | ((go_at_call 125); refine (HBL.out _).mono ?_; rintro e w' ⟨rfl, hb⟩; exact ⟨rfl, bThen hb1.out hb⟩))) | (with_reducible rfl) | exact rfl))); (simp only [Act.put, zzT, zzO, zzS])))
  refine WQ_nil ?_
  intro w1 hb1
  go_wp2_with fail
  go_ret
  exact ⟨rfl, bThen HB.out hb1⟩

abbrev ixW (p : Plt) (lim : Int) (now : List (OSt × List Int)) (j : Nat) : Bool := blwQ p lim (ag now j).1
def arI (p : Plt) (lim : Int) (now : List (OSt × List Int)) : Nat := ixF (ixW p lim now) 0 now.length
theorem find_ixF (B : OSt × List Int → Bool) (now : List (OSt × List Int)) : ∀ (m k : Nat), k + m = now.length → (now.drop k).find? B = if ixF (fun j => B (ag now j)) k m < now.length then some (ag now (ixF (fun j => B (ag now j)) k m)) else none
  | 0, k, h => by
    rw [List.drop_eq_nil_of_le (by omega)]
    unfold ixF
    rw [if_neg (by omega)]; rfl
  | m + 1, k, h => by
    have hk : k < now.length := by omega
    have ih := find_ixF B now m (k + 1) (by omega)
    rw [List.drop_eq_getElem_cons hk, ← ag_lt hk]
    unfold ixF
    by_cases hz : B (ag now k) = true
    · rw [if_pos hz, if_pos hk]; exact List.find?_cons_of_pos hz
    · rw [if_neg hz, ← ih]; exact List.find?_cons_of_neg hz
theorem find_ar {p : Plt} {lim : Int} {now : List (OSt × List Int)} : now.find? (fun a => blwQ p lim a.1) = if arI p lim now < now.length then some (ag now (arI p lim now)) else none := by
  have := find_ixF (fun a => blwQ p lim a.1) now now.length 0 (by omega)
  rw [List.drop_zero] at this
  exact this

theorem idxA_any (p : Plt) (lim : Int) (now : List (OSt × List Int)) (ds : Nat → Option Addr × Nat) (a al na : Option Addr) (cap cl nc px py : Nat) (w : World) (hp : PltOk p) (hst : ∀ x ∈ now, StOk p x.1) (hlim : Nin lim) (hlen : now.length ≤ 100000)
    (hP : Blk w px (plL p a cap al cl)) (hL : Blk w py #[.int .i64 lim]) (hr : Reads w al (p.pts.length * 2) (fracs p.pts)) (hn : Reads w na (now.length * 3) (arrF now ds)) :
    Calls Tryz.prog 129 #[.slice na now.length nc, .func (.func 130) #[] #[.pointer (some ⟨px, 0, none⟩), .pointer (some ⟨py, 0, none⟩)]] w fun e w' => e = .returned (.int .i64 (idxI (arI p lim now) now.length)) ∧ Below w.heap.size w w' := by
  have HR := zH hn
  have HW := zH (fun W (hb : Below w.heap.size w W) k (hk : k < now.length) => wit1_any p (ag now k).1 lim a al (ds k).1 cap cl (ag now k).2.length (ds k).2 px py W hp (hst _ (ag_mem hk)) hlim (hP.to hb) (hL.to hb) (hr.to hb))
  have HP : Hid (arI p lim now = ixF (ixW p lim now) 0 now.length) := zH rfl
  obtain ⟨pi, hpi⟩ : ∃ i, arI p lim now = i := ⟨_, rfl⟩
  rw [hpi] at HP ⊢
  clear hn hr hP hL hpi hst hp hlim
  go_enter Tryz.func129, Tryz.ntmps129
  go_wp2_with fail
  go_loopw [5, 8] (fun _ i wr => ∃ k : Nat, k ≤ now.length ∧ i = .int .i64 k ∧ Hid (pi = ixF (ixW p lim now) k (now.length - k)) ∧ Hid (Below w.heap.size w wr)) (fun _ i _ => now.length - (intOf i).toNat)
  case atStart => exact ⟨0, Nat.zero_le _, rfl, HP, zH (bSelf w)⟩
  case round =>
    obtain ⟨k, hk, rfl, hi, hI⟩ := hrel
    by_cases hlt : k < now.length
    · obtain ⟨b, off, rfl, hb, hc⟩ := (HR.out.to hI.out).at (k := k * 3) (by omega)
      have HWk := zH (HW.out wr hI.out k hlt)
      have e0 : wr.cell? ⟨b, off + k * 3, none⟩ = some (.int .i64 (ag now k).1.1) := by have := hc (k * 3) (by omega); rw [arrF0] at this; exact this
      have e1 : wr.cell? ⟨b, off + k * 3 + 1, none⟩ = some (.bool (ag now k).1.2) := by have := hc (k * 3 + 1) (by omega); rw [arrF1] at this; exact this
      have e2 : wr.cell? ⟨b, off + k * 3 + 1 + 1, none⟩ = some (.slice (ds k).1 (ag now k).2.length (ds k).2) := by have := hc (k * 3 + 1 + 1) (by omega); rw [arrF2] at this; exact this
      clear hc HW
      cases hz : ixW p lim now k
      · have HS := zH (ixF_step hlt hz)
        have HZ : Hid (blwQ p lim (ag now k).1 = false) := zH hz
        rw [HZ.out] at HWk
        clear hz
        go_wp2_with (go_at_call 130; refine HWk.out.mono ?_; rintro e w' ⟨rfl, hb'⟩; have hb' := zH hb')
        go_roundw
        case rel => exact ⟨k + 1, by omega, by go_num, zH (hi.out.trans HS.out), zH (bThen hI.out hb'.out)⟩
        case measure => simp [intOf]; omega
      · have HS := zH (ixF_stop hlt hz)
        have HZ : Hid (blwQ p lim (ag now k).1 = true) := zH hz
        rw [HZ.out] at HWk
        clear hz
        go_wp2_with (go_at_call 130; refine HWk.out.mono ?_; rintro e w' ⟨rfl, hb'⟩; have hb' := zH hb')
        go_ret
        exact ⟨ret_int (by rw [hi.out, HS.out]; unfold idxI; rw [if_pos hlt]), bThen hI.out hb'.out⟩
    · have : k = now.length := by omega
      subst this
      go_wp2
      go_ret
      exact ⟨ret_int (by rw [hi.out, Nat.sub_self]; unfold idxI ixF; rw [if_neg (by omega)]), hI.out⟩
end
end Go.Proofs.YtbpcapcgbnbknaaGreat
