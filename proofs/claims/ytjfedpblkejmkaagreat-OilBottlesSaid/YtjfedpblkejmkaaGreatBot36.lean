/-
  Texts of this claim, in their build order: OM20.
-/
import Derived.Test.YtjfedpblkejmkaaGreatBot35
import Derived.Test.YtjfedpblkejmkaaGreatBot33
import Derived.Test.YtjfedpblkejmkaaGreatBot0

namespace Go.Proofs.YtjfedpblkejmkaaGreat
section
open Go.RowKit
attribute [local go_sem] Oper.semAt_some

/-- Two rows from block B on, apart from each other and from some blocks laid beside them. -/
structure RS2 (B : Nat) (e : TypeId) (sz : Nat) (W : World) (u1 u2 : Value) (m1 m2 : Nat) (xs1 xs2 : List Value) (S : List (Nat × Array Value)) : Prop where
  lt : B ≤ W.heap.size
  r1 : W.ownsRow B e sz u1 m1 xs1
  r2 : W.ownsRow B e sz u2 m2 xs2
  ap : ∀ g, u1.ownBlock = some g → u2.ownBlock ≠ some g
  tm : ∀ p ∈ S, B ≤ p.1 ∧ Blk W p.1 p.2 ∧ u1.ownBlock ≠ some p.1 ∧ u2.ownBlock ≠ some p.1
section
variable {B : Nat} {e : TypeId} {sz : Nat} {W : World} {u1 u2 : Value} {m1 m2 : Nat} {xs1 xs2 : List Value} {S : List (Nat × Array Value)}
theorem RS2.to (h : RS2 B e sz W u1 u2 m1 m2 xs1 xs2 S) {W' : World} (hb : Below W.heap.size W W') : RS2 B e sz W' u1 u2 m1 m2 xs1 xs2 S :=
  ⟨Nat.le_trans h.lt hb.size, owns_to h.r1 hb, owns_to h.r2 hb, h.ap, fun p hp => ⟨(h.tm p hp).1, (h.tm p hp).2.1.to hb, (h.tm p hp).2.2⟩⟩
theorem RS2.alloc (h : RS2 B e sz W u1 u2 m1 m2 xs1 xs2 S) (cs : Array Value) (T : TypeId) : RS2 B e sz (W.alloc (.cells cs T)) u1 u2 m1 m2 xs1 xs2 ((W.heap.size, cs) :: S) := by
  have hb : Below W.heap.size W (W.alloc (.cells cs T)) := bAlloc (bSelf W) _
  have h' := h.to hb
  refine ⟨h'.lt, h'.r1, h'.r2, h.ap, fun p hp => ?_⟩
  rcases List.mem_cons.1 hp with rfl | hp
  · exact ⟨h.lt, Blk.new _ _ _, fun e => by have := (h.r1.lt _ e).2; dsimp only at this; omega, fun e => by have := (h.r2.lt _ e).2; dsimp only at this; omega⟩
  · exact h'.tm p hp
theorem RS2.app1 (h : RS2 B e sz W u1 u2 m1 m2 xs1 xs2 S) {W' : World} {v' : Value} {m' : Nat} {ys : List Value} (hown : W'.ownsRow B e sz v' m' ys) (hg : W.grownBy W' u1.ownBlock) (hw : v'.ownBlock = u1.ownBlock ∨ v'.ownBlock = some W.heap.size) :
    RS2 B e sz W' v' u2 m' m2 ys xs2 S ∧ Below B W W' := by
  refine ⟨⟨Nat.le_trans h.lt hg.size, hown, h.r2.kept hg ?_, fun g e e2 => ?_, fun p hp => ?_⟩, (Below.refl _ _).grown hg h.lt (fun k e => (h.r1.lt k e).1)⟩
  · cases hv : u2.ownBlock with
    | none => exact .inl rfl
    | some g => exact .inr (fun e => h.ap g e.symm hv)
  · rcases hw with hw | hw
    · exact h.ap g (hw ▸ e) e2
    · have := (h.r2.lt g e2).2
      rw [hw] at e
      cases e
      omega
  · obtain ⟨h0, h1, h2, h3⟩ := h.tm p hp
    refine ⟨h0, blk_grown h1 hg h2, fun e => ?_, h3⟩
    rcases hw with hw | hw
    · exact h2 (hw ▸ e)
    · have := h1.1
      rw [hw] at e
      have e := Option.some.inj e
      omega
theorem RS2.swap (h : RS2 B e sz W u1 u2 m1 m2 xs1 xs2 S) : RS2 B e sz W u2 u1 m2 m1 xs2 xs1 S :=
  ⟨h.lt, h.r2, h.r1, fun g e e2 => h.ap g e2 e, fun p hp => ⟨(h.tm p hp).1, (h.tm p hp).2.1, (h.tm p hp).2.2.2, (h.tm p hp).2.2.1⟩⟩
theorem RS2.app2 (h : RS2 B e sz W u1 u2 m1 m2 xs1 xs2 S) {W' : World} {v' : Value} {m' : Nat} {ys : List Value} (hown : W'.ownsRow B e sz v' m' ys) (hg : W.grownBy W' u2.ownBlock) (hw : v'.ownBlock = u2.ownBlock ∨ v'.ownBlock = some W.heap.size) :
    RS2 B e sz W' u1 v' m1 m' xs1 ys S ∧ Below B W W' := by
  obtain ⟨h1, h2⟩ := h.swap.app1 hown hg hw
  exact ⟨h1.swap, h2⟩
theorem RS2.keepA (h : RS2 B e sz W u1 u2 m1 m2 xs1 xs2 S) {b : Nat} (hb : b < W.heap.size) (o : Obj) : KeepR B b W (W.alloc o) := ⟨(Below.refl _ _).alloc h.lt o, Below.heap_alloc _ _ _ hb⟩
theorem RS2.keep1 (h : RS2 B e sz W u1 u2 m1 m2 xs1 xs2 S) {p : Nat × Array Value} (hp : p ∈ S) {W' : World} (hg : W.grownBy W' u1.ownBlock) (hb : Below B W W') : KeepR B p.1 W W' := ⟨hb, hg.block _ (h.tm p hp).2.1.1 (fun e => (h.tm p hp).2.2.1 e.symm)⟩
theorem RS2.keep2 (h : RS2 B e sz W u1 u2 m1 m2 xs1 xs2 S) {p : Nat × Array Value} (hp : p ∈ S) {W' : World} (hg : W.grownBy W' u2.ownBlock) (hb : Below B W W') : KeepR B p.1 W W' := ⟨hb, hg.block _ (h.tm p hp).2.1.1 (fun e => (h.tm p hp).2.2.2 e.symm)⟩
theorem RS2.drop (h : RS2 B e sz W u1 u2 m1 m2 xs1 xs2 S) : RS2 B e sz W u1 u2 m1 m2 xs1 xs2 [] := ⟨h.lt, h.r1, h.r2, h.ap, fun p hp => by cases hp⟩
end
theorem fg_low (l : List (Int × Int × Int)) (k : Nat) : fg (lowV l) k = ((vg l k).1, (vg l k).2.1) := by
  unfold fg lowV vg
  rw [List.getD_eq_getElem?_getD, List.getD_eq_getElem?_getD, List.getElem?_map]
  cases l[k]? <;> rfl
theorem fg_upp (l : List (Int × Int × Int)) (k : Nat) : fg (uppV l) k = ((vg l k).1, (vg l k).2.2) := by
  unfold fg uppV vg
  rw [List.getD_eq_getElem?_getD, List.getD_eq_getElem?_getD, List.getElem?_map]
  cases l[k]? <;> rfl
theorem low_len (l : List (Int × Int × Int)) : (lowV l).length = l.length := by unfold lowV; rw [List.length_map]
theorem upp_len (l : List (Int × Int × Int)) : (uppV l).length = l.length := by unfold uppV; rw [List.length_map]
/-- The last drop of the first k points. -/
def lstV (l : List (Int × Int × Int)) : Nat → Int
  | 0 => 0
  | k + 1 => (vg l k).1
structure OpvIn (l : List (Int × Int × Int)) (w : World) (v1 v2 : Value) (k : Nat) (wr : World) : Prop where
  rs : RS2 w.heap.size 225 2 wr v1 v2 k k (fcells ((lowV l).take k)) (fcells ((uppV l).take k)) []
  bel : Below w.heap.size w wr
theorem OpvIn.add {l : List (Int × Int × Int)} {w w' : World} {v1 v2 : Value} {k : Nat} {b : Below w.heap.size w w'} {S : List (Nat × Array Value)} (hk : k < l.length)
    (h : RS2 w.heap.size 225 2 w' v1 v2 (k + 1) (k + 1) (fcells ((lowV l).take k) ++ [.int .i64 (vg l k).1, .int .i64 (vg l k).2.1]) (fcells ((uppV l).take k) ++ [.int .i64 (vg l k).1, .int .i64 (vg l k).2.2]) S) : OpvIn l w v1 v2 (k + 1) w' := by
  refine ⟨?_, b⟩
  have e1 := fcells_take (l := lowV l) (k := k) (by rw [low_len]; exact hk)
  have e2 := fcells_take (l := uppV l) (k := k) (by rw [upp_len]; exact hk)
  rw [fg_low] at e1
  rw [fg_upp] at e2
  rw [e1, e2]
  exact h.drop
def OpvPost (l : List (Int × Int × Int)) (w : World) (e : Ending) (w' : World) : Prop :=
  ∃ a1 c1 a2 c2, e = .returned (.tuple #[.slice a1 l.length c1, .slice a2 l.length c2, .int .i64 (lstV l l.length), .int .i64 (chVl l).2]) ∧ Reads w' a1 (l.length * 2) (fracs (lowV l)) ∧ Reads w' a2 (l.length * 2) (fracs (uppV l)) ∧ Below w.heap.size w w'

set_option maxHeartbeats 6400000 in
set_option maxRecDepth 100000 in
theorem openValve_any (l : List (Int × Int × Int)) (a : Option Addr) (cap : Nat) (w : World) (hlen : l.length ≤ 1000) (hr : Reads w a (l.length * 3) (flws l)) :
    Calls Tryz.prog 114 #[.slice a l.length cap] w (OpvPost l w) := by
  have HCP := zH (fun W (hb : Below w.heap.size w W) => CheckValve_any l a cap W (by omega) (hr.to hb))
  have HR := zH hr
  obtain ⟨n, hn⟩ : ∃ n, l.length = n := ⟨_, rfl⟩
  have HPN := zH hn
  have HP : Hid (∀ e w', (∃ a1 c1 a2 c2, e = .returned (.tuple #[.slice a1 n c1, .slice a2 n c2, .int .i64 (lstV l n), .int .i64 (chVl l).2]) ∧ Reads w' a1 (n * 2) (fracs (lowV l)) ∧ Reads w' a2 (n * 2) (fracs (uppV l)) ∧ Below w.heap.size w w') → OpvPost l w e w') := zH (fun e w' h => by rw [← hn] at h; exact h)
  obtain ⟨e1, he1⟩ : ∃ e, (chVl l).1 = e := ⟨_, rfl⟩
  obtain ⟨e2, he2⟩ : ∃ e, (chVl l).2 = e := ⟨_, rfl⟩
  rw [he1, he2, hn] at HCP
  rw [he2] at HP
  rw [hn] at HR hlen
  rw [hn]
  have HADD := zH (fun (k : Nat) (hk : k < n) v1 v2 w' S b h => OpvIn.add (l := l) (w := w) (w' := w') (v1 := v1) (v2 := v2) (k := k) (b := b) (S := S) (by omega) h)
  clear hr he1 he2 hn
  go_enter Tryz.func114, Tryz.ntmps114
  go_wp2_with fail
  refine (HCP.out _ (bSelf w)).mono ?_
  rintro e w1 ⟨rfl, hb⟩
  have HB := zH hb
  clear hb HCP
  go_wp2_with fail
  have HS : Hid (OpvIn l w (.slice none 0 0) (.slice none 0 0) 0 w1) := zH ⟨⟨HB.out.size, ⟨by simp [fcells], .inl ⟨rfl, rfl⟩⟩, ⟨by simp [fcells], .inl ⟨rfl, rfl⟩⟩, (fun g e => by cases e), (fun p hp => by cases hp)⟩, HB.out⟩
  go_loopw [2, 3, 4, 15] (fun s2 s3 s4 i wr => ∃ k : Nat, i = .int .i64 k ∧ k ≤ n ∧ s4 = .int .i64 (lstV l k) ∧ Hid (OpvIn l w s2 s3 k wr)) (fun _ _ _ i _ => n - (intOf i).toNat)
  case atStart => exact ⟨0, rfl, Nat.zero_le _, rfl, HS⟩
  case round =>
    obtain ⟨k, rfl, hk, rfl, HI⟩ := hrel
    obtain ⟨wo, hwo⟩ : ∃ wo, wo = wr := ⟨_, rfl⟩
    subst hwo
    obtain ⟨a1, c1, rfl⟩ := ownsRow_sl HI.out.rs.r1
    obtain ⟨a2, c2, rfl⟩ := ownsRow_sl HI.out.rs.r2
    obtain ⟨ls, hls⟩ : ∃ x, lstV l k = x := ⟨_, rfl⟩
    rw [hls]
    by_cases hlt : k < n
    · have HLS : Hid (lstV l (k + 1) = (vg l k).1) := zH rfl
      clear hls
      obtain ⟨b, off, rfl, hb, hc⟩ := (HR.out.to HI.out.bel).at (k := k * 3) (by omega)
      have HAD := zH (HADD.out k hlt)
      obtain ⟨⟨x, y, z⟩, hx⟩ : ∃ x, vg l k = x := ⟨_, rfl⟩
      rw [hx] at HAD HLS
      have c0 : wo.cell? ⟨b, off + k * 3, none⟩ = some (.int .i64 x) := by have := hc (k * 3) (by omega); rw [flws0, hx] at this; exact this
      have c1 : wo.cell? ⟨b, off + k * 3 + 1, none⟩ = some (.int .i64 y) := by have := hc (k * 3 + 1) (by omega); rw [flws1, hx] at this; exact this
      have c2 : wo.cell? ⟨b, off + k * 3 + 1 + 1, none⟩ = some (.int .i64 z) := by have := hc (k * 3 + 1 + 1) (by omega); rw [flws2, hx] at this; exact this
      clear hc hx
      go_wp2_with fail
      clear c0 c1 c2
      obtain ⟨W, hW⟩ : ∃ W, wo.alloc (.cells #[.int .i64 x, .int .i64 y, .int .i64 z] 90) = W := ⟨_, rfl⟩
      rw [hW]
      have HT : Hid (RS2 w.heap.size 225 2 W (.slice a1 k c1) (.slice a2 k c2) k k (fcells ((lowV l).take k)) (fcells ((uppV l).take k)) [(wo.heap.size, #[.int .i64 x, .int .i64 y, .int .i64 z])]) := by subst hW; exact zH (HI.out.rs.alloc _ _)
      have HW : Hid (Below w.heap.size w W) := by subst hW; exact zH (bAlloc HI.out.bel _)
      have HBX := zH (HT.out.tm _ (List.mem_singleton.2 rfl)).2.1
      have hBX := HBX.out.1
      obtain ⟨N0, hN0⟩ : ∃ N0, w.heap.size = N0 := ⟨_, rfl⟩
      obtain ⟨B7, hB7⟩ : ∃ B7, wo.heap.size = B7 := ⟨_, rfl⟩
      rw [hB7] at HT HBX hBX ⊢
      have HN0 := zH hN0
      rw [hN0] at HT
      clear hW hN0 hB7 HI HADD
      refine wp_region_graph (KeepR N0 B7) (KeepR.pre _ _) (by kernel_rfl) (fun wi hwe hwi => ?_)
      replace HBX := zH (HBX.out.same (w' := wi) (by rw [hwe]))
      replace HT := zH (HT.out.to hwi)
      replace hBX : B7 < wi.heap.size := HBX.out.1
      have HBL : Hid (Below N0 w wi) := zH (by rw [← HN0.out]; exact bThen HW.out hwi)
      clear hwe hwi HW
      refine WG_yes 0 rfl (by kernel_rfl) (fun _ _ _ _ _ h => h) (by rfl) ?_; apply Exists.intro; refine ⟨fun w1 hb1 => ?_, ?_⟩; (focus ((have hb1 := zH hb1; go_simp); (try (go_bits; try go_simp)); (try (rw [if_pos (by omega)]; try go_simp)); (first | done | (with_reducible rfl) | exact rfl)))
      simp only [Act.put, zzT, zzO, zzS]
      refine WG_yes 1 rfl (by kernel_rfl) (fun _ _ _ _ _ h => h) (by rfl) ?_; apply Exists.intro; refine ⟨fun w1 hb1 => ?_, ?_⟩; (focus ((have hb1 := zH hb1; go_simp); (try (go_bits; try go_simp)); (try (rw [if_pos (by omega)]; try go_simp)); (first | done | (with_reducible rfl) | exact rfl)))
      simp only [Act.put, zzT, zzO, zzS]
      refine WG_yes 2 rfl (by kernel_rfl) (fun _ _ _ _ _ h => h) (by rfl) ?_; apply Exists.intro; refine ⟨fun w1 hb1 => ?_, ?_⟩; (focus (((obtain ⟨-, k7, -⟩ := HBX.out.same (w' := w1) hb1.2); have hb1 := zH hb1; go_simp); (try (go_bits; try go_simp)); (try (rw [if_pos (by omega)]; try go_simp)); (first | done | (with_reducible rfl) | exact rfl)))
      simp only [Act.put, zzT, zzO, zzS]
      refine WG_yes 3 rfl (by kernel_rfl) (fun _ _ _ _ _ h => h) (by rfl) ?_; apply Exists.intro; refine ⟨fun w1 hb1 => ?_, ?_⟩; (focus ((have hb1 := zH hb1; go_simp); (try (go_bits; try go_simp)); (try (rw [if_pos (by omega)]; try go_simp)); (first | done | (with_reducible rfl) | exact rfl)))
      simp only [Act.put, zzT, zzO, zzS]
      refine WG_yes 4 rfl (by kernel_rfl) (fun _ _ _ _ _ h => h) (by rfl) ?_; apply Exists.intro; refine ⟨fun w1 hb1 => ?_, ?_⟩; (focus (((obtain ⟨-, k7, -⟩ := HBX.out.same (w' := w1) hb1.2); have hb1 := zH hb1; go_simp); (try (go_bits; try go_simp)); (try (rw [if_pos (by omega)]; try go_simp)); (first | done | (with_reducible rfl) | exact rfl)))
      simp only [Act.put, zzT, zzO, zzS]
      refine WG_yes 5 rfl (by kernel_rfl) (fun _ _ _ _ _ h => h) (by rfl) ⟨.agg #[.int .i64 x, .int .i64 y], fun w1 hb1 => (by go_simp), ?_⟩
      simp only [Act.put, zzT, zzO, zzS]
      refine WG_yes 8 rfl (by kernel_rfl) (fun _ _ _ _ _ h => h) (by rfl) ?_; apply Exists.intro; refine ⟨fun w1 hb1 => ?_, ?_⟩; (focus ((have hb1 := zH hb1; go_simp); (try (go_bits; try go_simp)); (try (rw [if_pos (by omega)]; try go_simp)); (first | done | (with_reducible rfl) | exact rfl)))
      simp only [Act.put, zzT, zzO, zzS]
      refine WG_yes 9 rfl (by kernel_rfl) (fun _ _ _ _ _ h => h) (by rfl) ?_; apply Exists.intro; refine ⟨fun w1 hb1 => ?_, ?_⟩; (focus ((have hb1 := zH hb1; go_simp); (try (go_bits; try go_simp)); (try (rw [if_pos (by omega)]; try go_simp)); (first | done | (with_reducible rfl) | exact rfl)))
      simp only [Act.put, zzT, zzO, zzS]
      refine WG_yes 10 rfl (by kernel_rfl) (fun _ _ _ _ _ h => h) (by rfl) ?_; apply Exists.intro; refine ⟨fun w1 hb1 => ?_, ?_⟩; (focus (((obtain ⟨-, k7, -⟩ := HBX.out.same (w' := w1) hb1.2); have hb1 := zH hb1; go_simp); (try (go_bits; try go_simp)); (try (rw [if_pos (by omega)]; try go_simp)); (first | done | (with_reducible rfl) | exact rfl)))
      simp only [Act.put, zzT, zzO, zzS]
      refine WG_yes 11 rfl (by kernel_rfl) (fun _ _ _ _ _ h => h) (by rfl) ?_; apply Exists.intro; refine ⟨fun w1 hb1 => ?_, ?_⟩; (focus ((have hb1 := zH hb1; go_simp); (try (go_bits; try go_simp)); (try (rw [if_pos (by omega)]; try go_simp)); (first | done | (with_reducible rfl) | exact rfl)))
      simp only [Act.put, zzT, zzO, zzS]
      refine WG_yes 12 rfl (by kernel_rfl) (fun _ _ _ _ _ h => h) (by rfl) ?_; apply Exists.intro; refine ⟨fun w1 hb1 => ?_, ?_⟩; (focus (((obtain ⟨-, k7, -⟩ := HBX.out.same (w' := w1) hb1.2); have hb1 := zH hb1; go_simp); (try (go_bits; try go_simp)); (try (rw [if_pos (by omega)]; try go_simp)); (first | done | (with_reducible rfl) | exact rfl)))
      simp only [Act.put, zzT, zzO, zzS]
      refine WG_yes 13 rfl (by kernel_rfl) (fun _ _ _ _ _ h => h) (by rfl) ⟨.agg #[.int .i64 x, .int .i64 z], fun w1 hb1 => (by go_simp), ?_⟩
      simp only [Act.put, zzT, zzO, zzS]
      refine WG_yes 16 rfl (by kernel_rfl) (fun _ _ _ _ _ h => h) (by rfl) ?_; apply Exists.intro; refine ⟨fun w1 hb1 => ?_, ?_⟩; (focus ((have hb1 := zH hb1; go_simp); (try (go_bits; try go_simp)); (try (rw [if_pos (by omega)]; try go_simp)); (first | done | (with_reducible rfl) | exact rfl)))
      simp only [Act.put, zzT, zzO, zzS]
      refine WG_yes 17 rfl (by kernel_rfl) (fun _ _ _ _ _ h => h) (by rfl) ?_; apply Exists.intro; refine ⟨fun w1 hb1 => ?_, ?_⟩; (focus (((obtain ⟨-, k7, -⟩ := HBX.out.same (w' := w1) hb1.2); have hb1 := zH hb1; go_simp); (try (go_bits; try go_simp)); (try (rw [if_pos (by omega)]; try go_simp)); (first | done | (with_reducible rfl) | exact rfl)))
      simp only [Act.put, zzT, zzO, zzS]
      clear HBX
      refine WG_two 6 14 rfl rfl (by kernel_rfl) ?_ ?_
      · skip
        unfold stepG
        go_wp2_with fail
        obtain ⟨u1, hu1⟩ : ∃ u, wi.alloc (.cells #[.int .i64 x, .int .i64 y] 225) = u := ⟨_, rfl⟩
        rw [hu1]
        have HT' := HT.out.alloc #[.int .i64 x, .int .i64 y] 225
        have hkp := HT.out.keepA hBX (.cells #[.int .i64 x, .int .i64 y] 225)
        rw [hu1] at HT' hkp
        obtain ⟨T1, hT1⟩ : ∃ t, wi.heap.size = t := ⟨_, rfl⟩
        rw [hT1] at HT' ⊢
        clear hT1 hu1
        replace HT := zH HT'
        replace HBL := zH (HBL.out.trans hkp.1)
        replace hBX : B7 < u1.heap.size := (HT.out.tm (B7, #[.int .i64 x, .int .i64 y, .int .i64 z]) (by simp)).2.1.1
        refine ⟨hkp, ?_⟩
        clear hkp HT'
        refine WG_two 7 14 rfl rfl (by kernel_rfl) ?_ ?_
        · skip
          unfold stepG
          have HN1 := zH (HT.out.tm (T1, #[.int .i64 x, .int .i64 y]) (by simp)).2.1.news
          go_wp2_with (at_builtin; go_loud (refine wpList_app N0 rtCor rfl (.tmp 19) (.tmp 25) rfl _ k _ rfl HT.out.r1 ⟨T1, 0, none⟩ 1 1 [.int .i64 x, .int .i64 y] rfl rfl (by simpa using HN1.out) (ones [x, y]) (by unfold maxLen; omega) (by omega) HT.out.lt ?_; intro v' u2 hown' hgrow _ hwhere; obtain ⟨b1, d1, rfl⟩ := ownsRow_sl hown'; have HO := zH hown'; have HG := zH hgrow; have HH := zH hwhere; clear hown' hgrow hwhere))
          obtain ⟨HT', hbl⟩ := HT.out.app1 HO.out HG.out HH.out
          have hkp := HT.out.keep1 (p := (B7, #[.int .i64 x, .int .i64 y, .int .i64 z])) (by simp) HG.out hbl
          replace HT := zH HT'
          replace HBL := zH (HBL.out.trans hkp.1)
          replace hBX : B7 < u2.heap.size := (HT.out.tm (B7, #[.int .i64 x, .int .i64 y, .int .i64 z]) (by simp)).2.1.1
          refine ⟨hkp, ?_⟩
          clear hkp HT' hbl HO HG HH HN1
          refine WG_one 14 rfl (by kernel_rfl) ?_
          unfold stepG
          go_wp2_with fail
          obtain ⟨u3, hu3⟩ : ∃ u, u2.alloc (.cells #[.int .i64 x, .int .i64 z] 225) = u := ⟨_, rfl⟩
          rw [hu3]
          have HT' := HT.out.alloc #[.int .i64 x, .int .i64 z] 225
          have hkp := HT.out.keepA hBX (.cells #[.int .i64 x, .int .i64 z] 225)
          rw [hu3] at HT' hkp
          obtain ⟨T2, hT2⟩ : ∃ t, u2.heap.size = t := ⟨_, rfl⟩
          rw [hT2] at HT' ⊢
          clear hT2 hu3
          replace HT := zH HT'
          replace HBL := zH (HBL.out.trans hkp.1)
          replace hBX : B7 < u3.heap.size := (HT.out.tm (B7, #[.int .i64 x, .int .i64 y, .int .i64 z]) (by simp)).2.1.1
          refine ⟨hkp, ?_⟩
          clear hkp HT'
          refine WG_one 15 rfl (by kernel_rfl) ?_
          unfold stepG
          have HN2 := zH (HT.out.tm (T2, #[.int .i64 x, .int .i64 z]) (by simp)).2.1.news
          go_wp2_with (at_builtin; go_loud (refine wpList_app N0 rtCor rfl (.tmp 27) (.tmp 33) rfl _ k _ rfl HT.out.r2 ⟨T2, 0, none⟩ 1 1 [.int .i64 x, .int .i64 z] rfl rfl (by simpa using HN2.out) (ones [x, z]) (by unfold maxLen; omega) (by omega) HT.out.lt ?_; intro v' u4 hown' hgrow _ hwhere; obtain ⟨b2, d2, rfl⟩ := ownsRow_sl hown'; have HO := zH hown'; have HG := zH hgrow; have HH := zH hwhere; clear hown' hgrow hwhere))
          obtain ⟨HT', hbl⟩ := HT.out.app2 HO.out HG.out HH.out
          have hkp := HT.out.keep2 (p := (B7, #[.int .i64 x, .int .i64 y, .int .i64 z])) (by simp) HG.out hbl
          replace HT := zH HT'
          replace HBL := zH (HBL.out.trans hkp.1)
          replace hBX : B7 < u4.heap.size := (HT.out.tm (B7, #[.int .i64 x, .int .i64 y, .int .i64 z]) (by simp)).2.1.1
          refine ⟨hkp, ?_⟩
          clear hkp HT' hbl HO HG HH HN2
          refine WG_one 18 rfl (by kernel_rfl) ?_
          unfold stepG
          go_wp2_with fail
          refine ⟨(KeepR.pre _ _).refl _, ?_⟩
          refine WG_one 19 rfl (by kernel_rfl) ?_
          unfold stepG
          go_wp2_with fail
          refine ⟨(KeepR.pre _ _).refl _, ?_⟩
          refine WG_one 20 rfl (by kernel_rfl) ?_
          unfold stepG
          go_wp2_with fail
          refine ⟨(KeepR.pre _ _).refl _, ?_⟩
          refine WG_done (by kernel_rfl) ?_
          go_wp2_with fail
          go_roundw
          case rel => exact ⟨k + 1, by go_num, by omega, by rw [HLS.out], zH (HAD.out _ _ _ _ (by rw [HN0.out]; exact HBL.out) (by rw [HN0.out]; exact HT.out))⟩
          case measure => simp [intOf]; omega
        · skip
          unfold stepG
          go_wp2_with fail
          obtain ⟨u2, hu2⟩ : ∃ u, u1.alloc (.cells #[.int .i64 x, .int .i64 z] 225) = u := ⟨_, rfl⟩
          rw [hu2]
          have HT' := HT.out.alloc #[.int .i64 x, .int .i64 z] 225
          have hkp := HT.out.keepA hBX (.cells #[.int .i64 x, .int .i64 z] 225)
          rw [hu2] at HT' hkp
          obtain ⟨T2, hT2⟩ : ∃ t, u1.heap.size = t := ⟨_, rfl⟩
          rw [hT2] at HT' ⊢
          clear hT2 hu2
          replace HT := zH HT'
          replace HBL := zH (HBL.out.trans hkp.1)
          replace hBX : B7 < u2.heap.size := (HT.out.tm (B7, #[.int .i64 x, .int .i64 y, .int .i64 z]) (by simp)).2.1.1
          refine ⟨hkp, ?_⟩
          clear hkp HT'
          refine WG_one 7 rfl (by kernel_rfl) ?_
          unfold stepG
          have HN1 := zH (HT.out.tm (T1, #[.int .i64 x, .int .i64 y]) (by simp)).2.1.news
          go_wp2_with (at_builtin; go_loud (refine wpList_app N0 rtCor rfl (.tmp 19) (.tmp 25) rfl _ k _ rfl HT.out.r1 ⟨T1, 0, none⟩ 1 1 [.int .i64 x, .int .i64 y] rfl rfl (by simpa using HN1.out) (ones [x, y]) (by unfold maxLen; omega) (by omega) HT.out.lt ?_; intro v' u3 hown' hgrow _ hwhere; obtain ⟨b1, d1, rfl⟩ := ownsRow_sl hown'; have HO := zH hown'; have HG := zH hgrow; have HH := zH hwhere; clear hown' hgrow hwhere))
          obtain ⟨HT', hbl⟩ := HT.out.app1 HO.out HG.out HH.out
          have hkp := HT.out.keep1 (p := (B7, #[.int .i64 x, .int .i64 y, .int .i64 z])) (by simp) HG.out hbl
          replace HT := zH HT'
          replace HBL := zH (HBL.out.trans hkp.1)
          replace hBX : B7 < u3.heap.size := (HT.out.tm (B7, #[.int .i64 x, .int .i64 y, .int .i64 z]) (by simp)).2.1.1
          refine ⟨hkp, ?_⟩
          clear hkp HT' hbl HO HG HH HN1
          refine WG_one 15 rfl (by kernel_rfl) ?_
          unfold stepG
          have HN2 := zH (HT.out.tm (T2, #[.int .i64 x, .int .i64 z]) (by simp)).2.1.news
          go_wp2_with (at_builtin; go_loud (refine wpList_app N0 rtCor rfl (.tmp 27) (.tmp 33) rfl _ k _ rfl HT.out.r2 ⟨T2, 0, none⟩ 1 1 [.int .i64 x, .int .i64 z] rfl rfl (by simpa using HN2.out) (ones [x, z]) (by unfold maxLen; omega) (by omega) HT.out.lt ?_; intro v' u4 hown' hgrow _ hwhere; obtain ⟨b2, d2, rfl⟩ := ownsRow_sl hown'; have HO := zH hown'; have HG := zH hgrow; have HH := zH hwhere; clear hown' hgrow hwhere))
          obtain ⟨HT', hbl⟩ := HT.out.app2 HO.out HG.out HH.out
          have hkp := HT.out.keep2 (p := (B7, #[.int .i64 x, .int .i64 y, .int .i64 z])) (by simp) HG.out hbl
          replace HT := zH HT'
          replace HBL := zH (HBL.out.trans hkp.1)
          replace hBX : B7 < u4.heap.size := (HT.out.tm (B7, #[.int .i64 x, .int .i64 y, .int .i64 z]) (by simp)).2.1.1
          refine ⟨hkp, ?_⟩
          clear hkp HT' hbl HO HG HH HN2
          refine WG_one 18 rfl (by kernel_rfl) ?_
          unfold stepG
          go_wp2_with fail
          refine ⟨(KeepR.pre _ _).refl _, ?_⟩
          refine WG_one 19 rfl (by kernel_rfl) ?_
          unfold stepG
          go_wp2_with fail
          refine ⟨(KeepR.pre _ _).refl _, ?_⟩
          refine WG_one 20 rfl (by kernel_rfl) ?_
          unfold stepG
          go_wp2_with fail
          refine ⟨(KeepR.pre _ _).refl _, ?_⟩
          refine WG_done (by kernel_rfl) ?_
          go_wp2_with fail
          go_roundw
          case rel => exact ⟨k + 1, by go_num, by omega, by rw [HLS.out], zH (HAD.out _ _ _ _ (by rw [HN0.out]; exact HBL.out) (by rw [HN0.out]; exact HT.out))⟩
          case measure => simp [intOf]; omega
      · skip
        unfold stepG
        go_wp2_with fail
        obtain ⟨u1, hu1⟩ : ∃ u, wi.alloc (.cells #[.int .i64 x, .int .i64 z] 225) = u := ⟨_, rfl⟩
        rw [hu1]
        have HT' := HT.out.alloc #[.int .i64 x, .int .i64 z] 225
        have hkp := HT.out.keepA hBX (.cells #[.int .i64 x, .int .i64 z] 225)
        rw [hu1] at HT' hkp
        obtain ⟨T2, hT2⟩ : ∃ t, wi.heap.size = t := ⟨_, rfl⟩
        rw [hT2] at HT' ⊢
        clear hT2 hu1
        replace HT := zH HT'
        replace HBL := zH (HBL.out.trans hkp.1)
        replace hBX : B7 < u1.heap.size := (HT.out.tm (B7, #[.int .i64 x, .int .i64 y, .int .i64 z]) (by simp)).2.1.1
        refine ⟨hkp, ?_⟩
        clear hkp HT'
        refine WG_one 6 rfl (by kernel_rfl) ?_
        unfold stepG
        go_wp2_with fail
        obtain ⟨u2, hu2⟩ : ∃ u, u1.alloc (.cells #[.int .i64 x, .int .i64 y] 225) = u := ⟨_, rfl⟩
        rw [hu2]
        have HT' := HT.out.alloc #[.int .i64 x, .int .i64 y] 225
        have hkp := HT.out.keepA hBX (.cells #[.int .i64 x, .int .i64 y] 225)
        rw [hu2] at HT' hkp
        obtain ⟨T1, hT1⟩ : ∃ t, u1.heap.size = t := ⟨_, rfl⟩
        rw [hT1] at HT' ⊢
        clear hT1 hu2
        replace HT := zH HT'
        replace HBL := zH (HBL.out.trans hkp.1)
        replace hBX : B7 < u2.heap.size := (HT.out.tm (B7, #[.int .i64 x, .int .i64 y, .int .i64 z]) (by simp)).2.1.1
        refine ⟨hkp, ?_⟩
        clear hkp HT'
        refine WG_one 7 rfl (by kernel_rfl) ?_
        unfold stepG
        have HN1 := zH (HT.out.tm (T1, #[.int .i64 x, .int .i64 y]) (by simp)).2.1.news
        go_wp2_with (at_builtin; go_loud (refine wpList_app N0 rtCor rfl (.tmp 19) (.tmp 25) rfl _ k _ rfl HT.out.r1 ⟨T1, 0, none⟩ 1 1 [.int .i64 x, .int .i64 y] rfl rfl (by simpa using HN1.out) (ones [x, y]) (by unfold maxLen; omega) (by omega) HT.out.lt ?_; intro v' u3 hown' hgrow _ hwhere; obtain ⟨b1, d1, rfl⟩ := ownsRow_sl hown'; have HO := zH hown'; have HG := zH hgrow; have HH := zH hwhere; clear hown' hgrow hwhere))
        obtain ⟨HT', hbl⟩ := HT.out.app1 HO.out HG.out HH.out
        have hkp := HT.out.keep1 (p := (B7, #[.int .i64 x, .int .i64 y, .int .i64 z])) (by simp) HG.out hbl
        replace HT := zH HT'
        replace HBL := zH (HBL.out.trans hkp.1)
        replace hBX : B7 < u3.heap.size := (HT.out.tm (B7, #[.int .i64 x, .int .i64 y, .int .i64 z]) (by simp)).2.1.1
        refine ⟨hkp, ?_⟩
        clear hkp HT' hbl HO HG HH HN1
        refine WG_one 15 rfl (by kernel_rfl) ?_
        unfold stepG
        have HN2 := zH (HT.out.tm (T2, #[.int .i64 x, .int .i64 z]) (by simp)).2.1.news
        go_wp2_with (at_builtin; go_loud (refine wpList_app N0 rtCor rfl (.tmp 27) (.tmp 33) rfl _ k _ rfl HT.out.r2 ⟨T2, 0, none⟩ 1 1 [.int .i64 x, .int .i64 z] rfl rfl (by simpa using HN2.out) (ones [x, z]) (by unfold maxLen; omega) (by omega) HT.out.lt ?_; intro v' u4 hown' hgrow _ hwhere; obtain ⟨b2, d2, rfl⟩ := ownsRow_sl hown'; have HO := zH hown'; have HG := zH hgrow; have HH := zH hwhere; clear hown' hgrow hwhere))
        obtain ⟨HT', hbl⟩ := HT.out.app2 HO.out HG.out HH.out
        have hkp := HT.out.keep2 (p := (B7, #[.int .i64 x, .int .i64 y, .int .i64 z])) (by simp) HG.out hbl
        replace HT := zH HT'
        replace HBL := zH (HBL.out.trans hkp.1)
        replace hBX : B7 < u4.heap.size := (HT.out.tm (B7, #[.int .i64 x, .int .i64 y, .int .i64 z]) (by simp)).2.1.1
        refine ⟨hkp, ?_⟩
        clear hkp HT' hbl HO HG HH HN2
        refine WG_one 18 rfl (by kernel_rfl) ?_
        unfold stepG
        go_wp2_with fail
        refine ⟨(KeepR.pre _ _).refl _, ?_⟩
        refine WG_one 19 rfl (by kernel_rfl) ?_
        unfold stepG
        go_wp2_with fail
        refine ⟨(KeepR.pre _ _).refl _, ?_⟩
        refine WG_one 20 rfl (by kernel_rfl) ?_
        unfold stepG
        go_wp2_with fail
        refine ⟨(KeepR.pre _ _).refl _, ?_⟩
        refine WG_done (by kernel_rfl) ?_
        go_wp2_with fail
        go_roundw
        case rel => exact ⟨k + 1, by go_num, by omega, by rw [HLS.out], zH (HAD.out _ _ _ _ (by rw [HN0.out]; exact HBL.out) (by rw [HN0.out]; exact HT.out))⟩
        case measure => simp [intOf]; omega
    · obtain rfl : n = k := by omega
      have HLS := zH hls
      clear hls
      go_wp2_with fail
      refine bodyPost_ret (v := .tuple #[.slice a1 n c1, .slice a2 n c2, .int .i64 ls, .int .i64 e2]) ?_ rfl (HP.out _ _ ?_)
      · simp [results, Tryz.results114, go_sem]
      · have h1 := HI.out.rs.r1
        have h2 := HI.out.rs.r2
        rw [List.take_of_length_le (by rw [low_len, HPN.out]; exact Nat.le_refl _)] at h1
        rw [List.take_of_length_le (by rw [upp_len, HPN.out]; exact Nat.le_refl _)] at h2
        obtain ⟨x1, y1, e1, -, hrd1, -⟩ := Reads.of_row (f := fracs (lowV l)) h1 (fun i hi => fcells_get (lowV l) i (by rw [low_len, HPN.out]; exact hi))
        obtain ⟨x2, y2, e2, -, hrd2, -⟩ := Reads.of_row (f := fracs (uppV l)) h2 (fun i hi => fcells_get (uppV l) i (by rw [upp_len, HPN.out]; exact hi))
        cases e1
        cases e2
        exact ⟨_, _, _, _, by rw [HLS.out], hrd1, hrd2, HI.out.bel⟩
end
end Go.Proofs.YtjfedpblkejmkaaGreat
