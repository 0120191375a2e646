/-
  Texts of this claim, in their build order: OP7 OA4.
-/
import Derived.Test.YtjfedpblkejmkaaGreatBot17
import Derived.Test.YtjfedpblkejmkaaGreatBot18
import Derived.Test.YtjfedpblkejmkaaGreatBot0

namespace Go.Proofs.YtjfedpblkejmkaaGreat
section
open Go.RowKit

/-- Points of a line that does not fall: at most 8, the first at 0. -/
structure LinOk (l : List (Int × Int)) : Prop where
  two : 2 ≤ l.length
  few : l.length ≤ 8
  v0 : (fg l 0).1 = 0
  vol : ∀ k, k < l.length → 0 ≤ (fg l k).1 ∧ (fg l k).1 ≤ 1000
  prs : ∀ k, k < l.length → 0 ≤ (fg l k).2 ∧ (fg l k).2 ≤ 1000
  up : ∀ k, k + 1 < l.length → (fg l k).1 < (fg l (k + 1)).1 ∧ (fg l k).2 ≤ (fg l (k + 1)).2
theorem LinOk.mono {l : List (Int × Int)} (h : LinOk l) {i : Nat} : ∀ {d : Nat}, i + d < l.length → (fg l i).1 + d ≤ (fg l (i + d)).1 ∧ (fg l i).2 ≤ (fg l (i + d)).2
  | 0, _ => by simp
  | d + 1, hd => by
    have h1 := h.mono (i := i) (d := d) (by omega)
    have h2 := h.up (i + d) (by omega)
    rw [show i + (d + 1) = i + d + 1 by omega]
    omega
theorem LinOk.leP {l : List (Int × Int)} (h : LinOk l) {i j : Nat} (hij : i ≤ j) (hj : j < l.length) : (fg l i).2 ≤ (fg l j).2 := by
  obtain ⟨d, rfl⟩ := Nat.exists_eq_add_of_le hij
  have := (h.mono (i := i) (d := d) hj).2; omega
theorem LinOk.leV {l : List (Int × Int)} (h : LinOk l) {i j : Nat} (hij : i ≤ j) (hj : j < l.length) : (fg l i).1 ≤ (fg l j).1 := by
  obtain ⟨d, rfl⟩ := Nat.exists_eq_add_of_le hij
  have := (h.mono (i := i) (d := d) hj).1; omega
theorem ptI_ltL {l : List (Int × Int)} {v : Int} (h : LinOk l) (hv : v ≤ capV l) : ptI l v < l.length := by
  rcases Nat.lt_or_ge (ptI l v) l.length with h1 | h1
  · exact h1
  · have h2 := ixF_no (fun j => decide (v ≤ (fg l j).1)) l.length 0 (l.length - 1) (Nat.zero_le _) (by have := h.two; unfold ptI at h1; omega)
    have h3 : ¬ v ≤ (fg l (l.length - 1)).1 := of_decide_eq_false h2
    unfold capV at hv
    omega
theorem ptI_geL {l : List (Int × Int)} {v : Int} (h : LinOk l) (hv : v ≤ capV l) : v ≤ (fg l (ptI l v)).1 := by
  have := ixF_yes (fun j => decide (v ≤ (fg l j).1)) l.length 0 (by have := ptI_ltL h hv; unfold ptI at this; omega)
  exact of_decide_eq_true this
theorem ptI_zeroL {l : List (Int × Int)} (h : LinOk l) : ptI l 0 = 0 := by
  unfold ptI
  obtain ⟨m, hm⟩ : ∃ m, l.length = m + 1 := ⟨l.length - 1, by have := h.two; omega⟩
  rw [hm, ixF, if_pos]
  rw [h.v0]; rfl
/-- What a number above 0 lies between. -/
theorem seg_bdL {a b : Int × Int} {v : Int} (h1 : a.1 < v) (h2 : v ≤ b.1) (h3 : a.2 ≤ b.2) : 0 < (segQ a b v).2 ∧ a.2 * (segQ a b v).2 ≤ (segQ a b v).1 ∧ (segQ a b v).1 ≤ b.2 * (segQ a b v).2 := by
  unfold segQ
  dsimp only
  have p1 : 0 ≤ (b.2 - a.2) * (v - a.1) := Int.mul_nonneg (by omega) (by omega)
  have p2 : 0 ≤ (b.2 - a.2) * (b.1 - v) := Int.mul_nonneg (by omega) (by omega)
  have e : b.2 * (b.1 - a.1) - (a.2 * (b.1 - a.1) + (b.2 - a.2) * (v - a.1)) = (b.2 - a.2) * (b.1 - v) := by grind
  exact ⟨by omega, by omega, by omega⟩
theorem prQ_denL {l : List (Int × Int)} {v : Int} (h : LinOk l) (h0 : 0 ≤ v) (hv : v ≤ capV l) : 1 ≤ (prQ l v).2 ∧ (prQ l v).2 ≤ 1000 ∧ 0 ≤ (prQ l v).1 ∧ (prQ l v).1 ≤ 1000 * (prQ l v).2 := by
  have hi := ptI_ltL h hv
  have hp := h.prs _ hi
  unfold prQ
  split
  · dsimp only; omega
  · rename_i e
    have hpos : 0 < ptI l v := by
      rcases Nat.eq_zero_or_pos (ptI l v) with e2 | e2
      · have := ptI_geL h hv
        rw [e2, h.v0] at this
        have : v = 0 := by omega
        subst this
        rw [ptI_zeroL h] at e
        exact absurd h.v0 e
      · exact e2
    have h1 := ptI_gt (l := l) (v := v) (j := ptI l v - 1) (by omega)
    have h2 := ptI_geL h hv
    have h3 := h.up (ptI l v - 1) (by omega)
    rw [show ptI l v - 1 + 1 = ptI l v by omega] at h3
    obtain ⟨b1, b2, b3⟩ := seg_bdL h1 h2 h3.2
    have hv1 := h.vol _ hi
    have hv2 := h.vol (ptI l v - 1) (by omega)
    have hp2 := h.prs (ptI l v - 1) (by omega)
    have hd : (segQ (fg l (ptI l v - 1)) (fg l (ptI l v)) v).2 = (fg l (ptI l v)).1 - (fg l (ptI l v - 1)).1 := rfl
    generalize segQ (fg l (ptI l v - 1)) (fg l (ptI l v)) v = s at *
    have q1 : 0 ≤ (fg l (ptI l v - 1)).2 * s.2 := Int.mul_nonneg hp2.1 (by omega)
    have q2 : (fg l (ptI l v)).2 * s.2 ≤ 1000 * s.2 := Int.mul_le_mul_of_nonneg_right hp.2 (by omega)
    omega
/-- Rounded down, and up. -/
def flQ (q : Int × Int) : Int := q.1 / q.2
def clQ (q : Int × Int) : Int := (q.1 + q.2 - 1) / q.2
end
section
set_option maxRecDepth 100000
set_option maxHeartbeats 1600000
open Go.RowKit
attribute [local go_sem] Oper.semAt_some

theorem on1_any (v q x : Int) (px : Nat) (w : World) (hx : Blk w px #[.int .i64 x]) :
    Calls Tryz.prog 161 #[.agg #[.int .i64 v, .int .i64 q], .pointer (some ⟨px, 0, none⟩)] w fun e w' => e = .returned (.bool (decide (x ≤ v))) ∧ Below w.heap.size w w' := by
  obtain ⟨hpx, kx, -⟩ := hx
  go_enter Tryz.func161, Tryz.ntmps161
  go_wp2_with fail
  go_ret
  exact ⟨rfl, bAlloc (bSelf w) _⟩

abbrev ixB (l : List (Int × Int)) (x : Int) (j : Nat) : Bool := decide (x ≤ (fg l j).1)
/-- slices.IndexFunc's answer. -/
def idxI (i n : Nat) : Int := if i < n then (i : Int) else -1

theorem idxC_any (l : List (Int × Int)) (x : Int) (a : Option Addr) (cap px : Nat) (w : World) (hlen : l.length ≤ 100000) (hx : Blk w px #[.int .i64 x]) (hr : Reads w a (l.length * 2) (fracs l)) :
    Calls Tryz.prog 160 #[.slice a l.length cap, .func (.func 161) #[] #[.pointer (some ⟨px, 0, none⟩)]] w fun e w' => e = .returned (.int .i64 (idxI (ptI l x) l.length)) ∧ Below w.heap.size w w' := by
  have HR := zH hr
  have HX := zH hx
  have HP : Hid (ptI l x = ixF (ixB l x) 0 l.length) := zH rfl
  obtain ⟨pi, hpi⟩ : ∃ i, ptI l x = i := ⟨_, rfl⟩
  rw [hpi] at HP ⊢
  clear hr hx hpi
  go_enter Tryz.func160, Tryz.ntmps160
  go_wp2_with fail
  go_loopw [5, 8] (fun _ i wr => ∃ k : Nat, k ≤ l.length ∧ i = .int .i64 k ∧ Hid (pi = ixF (ixB l x) k (l.length - k)) ∧ Hid (Below w.heap.size w wr)) (fun _ i _ => l.length - (intOf i).toNat)
  case atStart => exact ⟨0, Nat.zero_le _, rfl, HP, zH (bSelf w)⟩
  case round =>
    obtain ⟨k, hk, rfl, hi, hI⟩ := hrel
    by_cases hlt : k < l.length
    · obtain ⟨b, off, rfl, hb, hc⟩ := (HR.out.to hI.out).at (k := k * 2) (by omega)
      have c0 : wr.cell? ⟨b, off + k * 2, none⟩ = some (.int .i64 (fg l k).1) := by have := hc (k * 2) (by omega); rw [fracs0] at this; exact this
      have c1 : wr.cell? ⟨b, off + k * 2 + 1, none⟩ = some (.int .i64 (fg l k).2) := by have := hc (k * 2 + 1) (by omega); rw [fracs1] at this; exact this
      have HX1 := zH (HX.out.to hI.out)
      clear hc
      cases hz : ixB l x k
      · have hz' : decide (x ≤ (fg l k).1) = false := hz
        have HS := zH (ixF_step hlt hz)
        have HZ := zH hz'
        clear hz hz'
        go_wp2_with (go_at_call 161; refine (on1_any _ _ x px _ HX1.out).mono ?_; rintro e w' ⟨rfl, hb'⟩; rw [HZ.out]; have hb' := zH hb')
        go_roundw
        case rel => exact ⟨k + 1, by omega, by go_num, zH (hi.out.trans HS.out), zH (bThen hI.out hb'.out)⟩
        case measure => simp [intOf]; omega
      · have hz' : decide (x ≤ (fg l k).1) = true := hz
        have HS := zH (ixF_stop hlt hz)
        have HZ := zH hz'
        clear hz hz'
        go_wp2_with (go_at_call 161; refine (on1_any _ _ x px _ HX1.out).mono ?_; rintro e w' ⟨rfl, hb'⟩; rw [HZ.out]; have hb' := zH hb')
        go_ret
        exact ⟨ret_int (by rw [hi.out, HS.out]; unfold idxI; rw [if_pos hlt]), bThen hI.out hb'.out⟩
    · have : k = l.length := by omega
      subst this
      go_wp2
      go_ret
      exact ⟨ret_int (by rw [hi.out, Nat.sub_self]; unfold idxI ixF; rw [if_neg (by omega)]), hI.out⟩

/-- A line of which the value at a number is asked. -/
structure OnOk (l : List (Int × Int)) (x : Int) : Prop where
  few : l.length ≤ 1000
  lt : ptI l x < l.length
  pos : (fg l (ptI l x)).1 ≠ x → 0 < ptI l x
  x0 : 0 ≤ x ∧ x ≤ 1000
  bd : ∀ k, k < l.length → 0 ≤ (fg l k).1 ∧ (fg l k).1 ≤ 1000 ∧ 0 ≤ (fg l k).2 ∧ (fg l k).2 ≤ 1000
theorem OnOk.of_pts {l : List (Int × Int)} {x : Int} (h : PtsOk l) (h0 : 0 ≤ x) (h1 : x ≤ capV l) : OnOk l x where
  few := by have := h.few; omega
  lt := ptI_lt h h1
  pos hne := by
    rcases Nat.eq_zero_or_pos (ptI l x) with e | e
    · have h2 := ptI_ge h h1
      rw [e, h.v0] at h2
      rw [e, h.v0] at hne
      omega
    · exact e
  x0 := ⟨h0, by have := (h.vol (l.length - 1) (by have := h.two; omega)).2; unfold capV at h1; omega⟩
  bd k hk := by have := h.vol k hk; have := h.prs k hk; omega

theorem on_any (l : List (Int × Int)) (x : Int) (a : Option Addr) (cap : Nat) (w : World) (ho : OnOk l x) (hr : Reads w a (l.length * 2) (fracs l)) :
    Calls Tryz.prog 115 #[.slice a l.length cap, .int .i64 x] w fun e w' => e = .returned (.agg #[.int .i64 (prQ l x).1, .int .i64 (prQ l x).2]) ∧ Below w.heap.size w w' := by
  obtain ⟨hfew, hlt, hpos, ⟨hx0, hx1⟩, hbd⟩ := ho
  have HI := zH (fun W px (hb : Below w.heap.size w W) (hx : Blk W px #[.int .i64 x]) => idxC_any l x a cap px W (by omega) hx (hr.to hb))
  have HQ : Hid (prQ l x = if (fg l (ptI l x)).1 = x then ((fg l (ptI l x)).2, 1) else segQ (fg l (ptI l x - 1)) (fg l (ptI l x)) x) := zH rfl
  obtain ⟨i, hi⟩ : ∃ i, ptI l x = i := ⟨_, rfl⟩
  have hix : idxI i l.length = i := by unfold idxI; rw [← hi, if_pos hlt]
  rw [hi] at HI HQ hlt hpos
  rw [hix] at HI
  clear hi hix
  obtain ⟨b1, hb1'⟩ : ∃ v, (fg l i).1 = v := ⟨_, rfl⟩
  obtain ⟨b2, hb2'⟩ : ∃ v, (fg l i).2 = v := ⟨_, rfl⟩
  obtain ⟨b, off, rfl, hb, hc⟩ := hr.at (k := i * 2) (by omega)
  have C0 : Hid (w.cell? ⟨b, off + i * 2, none⟩ = some (.int .i64 b1)) := zH (by have := hc (i * 2) (by omega); rw [fracs0, hb1'] at this; exact this)
  have C1 : Hid (w.cell? ⟨b, off + i * 2 + 1, none⟩ = some (.int .i64 b2)) := zH (by have := hc (i * 2 + 1) (by omega); rw [fracs1, hb2'] at this; exact this)
  obtain ⟨u0, u1, u2, u3⟩ := hbd i hlt
  rw [hb1'] at u0 u1 hpos
  rw [hb2'] at u2 u3
  obtain ⟨N, hN⟩ : ∃ n, l.length = n := ⟨_, rfl⟩
  by_cases he : b1 = x
  · have hq : prQ l x = (b2, 1) := by rw [HQ.out, if_pos (hb1'.trans he), hb2']
    rw [hq]
    rw [hN] at hlt hfew HI ⊢
    subst he
    clear HQ hq hb1' hb2' hr hc hbd hpos hN
    go_enter Tryz.func115, Tryz.ntmps115
    go_wp2_with fail
    obtain ⟨W, hW⟩ : ∃ W, (w.alloc (.cells #[.int .i64 b1] 3)).alloc (.cells #[.int .i64 0, .int .i64 0] 160) = W := ⟨_, rfl⟩
    rw [hW]
    have K0 : Hid (Blk W w.heap.size #[.int .i64 b1]) := by subst hW; exact zH ((Blk.new _ _ _).alloc _)
    have K1 : Hid (Blk W (w.heap.size + 1) #[.int .i64 0, .int .i64 0]) := by subst hW; exact zH (Blk.newAt _ _ _ (by simp))
    have HB : Hid (Below w.heap.size w W) := by subst hW; exact zH (bAlloc (bAlloc (bSelf w) _) _)
    clear hW
    refine (HI.out W _ HB.out K0.out).mono ?_
    rintro e w2 ⟨rfl, hb2⟩
    replace K0 := zH (K0.out.to hb2)
    replace K1 := zH (K1.out.to hb2)
    replace HB := zH (bThen HB.out hb2)
    clear hb2 HI
    have k0 : w2.cell? ⟨b, off + i * 2, none⟩ = some (.int .i64 b1) := (HB.out.cell (p := ⟨b, off + i * 2, none⟩) hb).trans C0.out
    have k1 : w2.cell? ⟨b, off + i * 2 + 1, none⟩ = some (.int .i64 b2) := (HB.out.cell (p := ⟨b, off + i * 2 + 1, none⟩) hb).trans C1.out
    obtain ⟨hs0, kx, -⟩ := K0.out
    obtain ⟨hs1, kp, fp⟩ := K1.out
    go_wp2_with fail
    have F := (((K1.out.set 0 (.int .i64 b2)).set 1 (.int .i64 1)).alloc (.cells #[.int .i64 b1, .int .i64 b2] 225))
    have F0 := F.2.1 0
    have F1 := F.2.1 1
    clear F k0 k1 kx kp fp
    refine bodyPost_ret (v := .agg #[.int .i64 b2, .int .i64 1]) ?_ rfl ⟨rfl, ?_⟩
    · simp [results, Tryz.results115, go_sem, F0, F1]
    · exact bAlloc ((HB.out.setCell (p := ⟨w.heap.size + 1, 0, none⟩) (Nat.le_succ _) _).setCell (p := ⟨w.heap.size + 1, 1, none⟩) (Nat.le_succ _) _) _
  · have hi0 := hpos he
    obtain ⟨j, rfl⟩ : ∃ j, i = j + 1 := ⟨i - 1, by omega⟩
    obtain ⟨a1, ha1'⟩ : ∃ v, (fg l j).1 = v := ⟨_, rfl⟩
    obtain ⟨a2, ha2'⟩ : ∃ v, (fg l j).2 = v := ⟨_, rfl⟩
    have hq : prQ l x = (a2 * (b1 - a1) + (b2 - a2) * (x - a1), b1 - a1) := by rw [HQ.out, if_neg (fun h => he (hb1'.symm.trans h)), Nat.add_sub_cancel]; unfold segQ; rw [hb1', hb2', ha1', ha2']
    rw [hq]
    have D0 : Hid (w.cell? ⟨b, off + j * 2, none⟩ = some (.int .i64 a1)) := zH (by have := hc (j * 2) (by omega); rw [fracs0, ha1'] at this; exact this)
    have D1 : Hid (w.cell? ⟨b, off + j * 2 + 1, none⟩ = some (.int .i64 a2)) := zH (by have := hc (j * 2 + 1) (by omega); rw [fracs1, ha2'] at this; exact this)
    obtain ⟨t0, t1, t2, t3⟩ := hbd j (by omega)
    rw [ha1'] at t0 t1
    rw [ha2'] at t2 t3
    have hp := mul_bd (a := a2) (b := b1 - a1) (A := 1000) (B := 1000) (by omega) (by omega) (by omega) (by omega)
    obtain ⟨p1, p2⟩ := hp
    have hp := mul_bd (a := b2 - a2) (b := x - a1) (A := 1000) (B := 1000) (by omega) (by omega) (by omega) (by omega)
    obtain ⟨p3, p4⟩ := hp
    have he' : (b1 == x) = false := by rw [beq_eq_false_iff_ne]; exact he
    have hjlt : j < N := by omega
    rw [hN] at hlt hfew HI ⊢
    clear HQ hq hb1' hb2' ha1' ha2' hr hc hbd hpos hi0 hN
    go_enter Tryz.func115, Tryz.ntmps115
    go_wp2_with fail
    obtain ⟨W, hW⟩ : ∃ W, (w.alloc (.cells #[.int .i64 x] 3)).alloc (.cells #[.int .i64 0, .int .i64 0] 160) = W := ⟨_, rfl⟩
    rw [hW]
    have K0 : Hid (Blk W w.heap.size #[.int .i64 x]) := by subst hW; exact zH ((Blk.new _ _ _).alloc _)
    have K1 : Hid (Blk W (w.heap.size + 1) #[.int .i64 0, .int .i64 0]) := by subst hW; exact zH (Blk.newAt _ _ _ (by simp))
    have HB : Hid (Below w.heap.size w W) := by subst hW; exact zH (bAlloc (bAlloc (bSelf w) _) _)
    clear hW
    refine (HI.out W _ HB.out K0.out).mono ?_
    rintro e w2 ⟨rfl, hb2⟩
    replace K0 := zH (K0.out.to hb2)
    replace K1 := zH (K1.out.to hb2)
    replace HB := zH (bThen HB.out hb2)
    clear hb2 HI
    have k0 : w2.cell? ⟨b, off + (j + 1) * 2, none⟩ = some (.int .i64 b1) := (HB.out.cell (p := ⟨b, off + (j + 1) * 2, none⟩) hb).trans C0.out
    have k1 : w2.cell? ⟨b, off + (j + 1) * 2 + 1, none⟩ = some (.int .i64 b2) := (HB.out.cell (p := ⟨b, off + (j + 1) * 2 + 1, none⟩) hb).trans C1.out
    have k2 : (w2.alloc (.cells #[.int .i64 b1, .int .i64 b2] 225)).cell? ⟨b, off + j * 2, none⟩ = some (.int .i64 a1) := ((bAlloc HB.out _).cell (p := ⟨b, off + j * 2, none⟩) hb).trans D0.out
    have k3 : (w2.alloc (.cells #[.int .i64 b1, .int .i64 b2] 225)).cell? ⟨b, off + j * 2 + 1, none⟩ = some (.int .i64 a2) := ((bAlloc HB.out _).cell (p := ⟨b, off + j * 2 + 1, none⟩) hb).trans D1.out
    obtain ⟨hs0, kx, -⟩ := K0.out
    obtain ⟨hs1, kp, fp⟩ := K1.out
    go_wp2_with fail
    have F := ((((K1.out.set 0 (.int .i64 (a2 * (b1 - a1) + (b2 - a2) * (x - a1)))).set 1 (.int .i64 (b1 - a1))).alloc (.cells #[.int .i64 b1, .int .i64 b2] 225)).alloc (.cells #[.int .i64 a1, .int .i64 a2] 225))
    have F0 := F.2.1 0
    have F1 := F.2.1 1
    clear F k0 k1 k2 k3 kx kp fp
    refine bodyPost_ret (v := .agg #[.int .i64 (a2 * (b1 - a1) + (b2 - a2) * (x - a1)), .int .i64 (b1 - a1)]) ?_ rfl ⟨rfl, ?_⟩
    · simp [results, Tryz.results115, go_sem, F0, F1]
    · exact bAlloc (bAlloc ((HB.out.setCell (p := ⟨w.heap.size + 1, 0, none⟩) (Nat.le_succ _) _).setCell (p := ⟨w.heap.size + 1, 1, none⟩) (Nat.le_succ _) _) _) _
end
end Go.Proofs.YtjfedpblkejmkaaGreat
