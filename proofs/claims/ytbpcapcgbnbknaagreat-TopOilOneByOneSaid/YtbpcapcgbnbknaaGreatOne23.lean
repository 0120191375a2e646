/-
  Texts of this claim, in their build order: P3 Lib13 OA6 G7 G11.
-/
import Derived.Test.YtbpcapcgbnbknaaGreatOne7
import Derived.Test.YtbpcapcgbnbknaaGreatOne19
import Derived.Test.YtbpcapcgbnbknaaGreatOne5
import Derived.Test.YtbpcapcgbnbknaaGreatOne18
import Derived.Lib.AppendZerosOnto
import Derived.Test.YtbpcapcgbnbknaaGreatOne2
import Derived.Test.YtbpcapcgbnbknaaGreatOne22
import Derived.Test.YtbpcapcgbnbknaaGreatOne0

namespace Go.Proofs.YtbpcapcgbnbknaaGreat
section
open Go.RowKit

theorem eachR_all {err : Nat → Int} : ∀ (n k : Nat), (∀ j, k ≤ j → j < k + n → err j = 0) → eachR err k n = (0, 0)
  | 0, _, _ => rfl
  | n + 1, k, h => by
    unfold eachR
    rw [if_pos (h k (by omega) (by omega))]
    exact eachR_all n (k + 1) (fun j h1 h2 => h j (by omega) (by omega))
end
section
open Go.RowKit

/-- Two rows beyond block B, apart from each other and from some cells laid for them. -/
structure RS (B : Nat) (W : World) (u1 u2 : Value) (m1 m2 : Nat) (xs1 xs2 : List Value) (S : List (Nat × Int)) : Prop where
  lt : B < W.heap.size
  r1 : W.ownsRow (B + 1) 3 1 u1 m1 xs1
  r2 : W.ownsRow (B + 1) 3 1 u2 m2 xs2
  ap : ∀ g, u1.ownBlock = some g → u2.ownBlock ≠ some g
  tm : ∀ p ∈ S, Blk W p.1 #[.int .i64 p.2] ∧ u1.ownBlock ≠ some p.1 ∧ u2.ownBlock ≠ some p.1
section
variable {B : Nat} {W : World} {u1 u2 : Value} {m1 m2 : Nat} {xs1 xs2 : List Value} {S : List (Nat × Int)}
theorem RS.to (h : RS B W u1 u2 m1 m2 xs1 xs2 S) {W' : World} (hb : Below W.heap.size W W') : RS B W' u1 u2 m1 m2 xs1 xs2 S :=
  ⟨Nat.lt_of_lt_of_le h.lt hb.size, owns_to h.r1 hb, owns_to h.r2 hb, h.ap, fun p hp => ⟨(h.tm p hp).1.to hb, (h.tm p hp).2⟩⟩
theorem RS.alloc (h : RS B W u1 u2 m1 m2 xs1 xs2 S) (x : Int) (T : TypeId) : RS B (W.alloc (.cells #[.int .i64 x] T)) u1 u2 m1 m2 xs1 xs2 ((W.heap.size, x) :: S) := by
  have hb : Below W.heap.size W (W.alloc (.cells #[.int .i64 x] T)) := bAlloc (bSelf W) _
  have h' := h.to hb
  refine ⟨h'.lt, h'.r1, h'.r2, h.ap, fun p hp => ?_⟩
  rcases List.mem_cons.1 hp with rfl | hp
  · exact ⟨Blk.new _ _ _, fun e => by have := (h.r1.lt _ e).2; dsimp only at this; omega, fun e => by have := (h.r2.lt _ e).2; dsimp only at this; omega⟩
  · exact h'.tm p hp
theorem RS.belowA (h : RS B W u1 u2 m1 m2 xs1 xs2 S) (o : Obj) : Below (B + 1) W (W.alloc o) := (Below.refl _ _).alloc h.lt o
theorem blk_grown {W W' : World} {b : Nat} {cs : Array Value} {row : Option Nat} (h : Blk W b cs) (hg : W.grownBy W' row) (hne : row ≠ some b) : Blk W' b cs := by
  have hb := hg.block b h.1 (fun e => hne e.symm)
  exact ⟨Nat.lt_of_lt_of_le h.1 hg.size, fun o => (World.cell?_of_block (a := ⟨b, o, none⟩) hb).trans (h.2.1 o), fun o => (World.frozen?_of_block (a := ⟨b, o, none⟩) hb).trans (h.2.2 o)⟩
theorem RS.app1 (h : RS B W u1 u2 m1 m2 xs1 xs2 S) {W' : World} {v' : Value} {m' : Nat} {ys : List Value} (hown : W'.ownsRow (B + 1) 3 1 v' m' ys) (hg : W.grownBy W' u1.ownBlock) (hw : v'.ownBlock = u1.ownBlock ∨ v'.ownBlock = some W.heap.size) :
    RS B W' v' u2 m' m2 ys xs2 S ∧ Below (B + 1) W W' := by
  refine ⟨⟨Nat.lt_of_lt_of_le h.lt hg.size, hown, h.r2.kept hg ?_, fun g e e2 => ?_, fun p hp => ?_⟩, (Below.refl _ _).grown hg h.lt (fun k e => (h.r1.lt k e).1)⟩
  · cases hv : u2.ownBlock with
    | none => exact .inl rfl
    | some g => exact .inr (fun e => h.ap g e.symm hv)
  · rcases hw with hw | hw
    · exact h.ap g (hw ▸ e) e2
    · have := (h.r2.lt g e2).2
      rw [hw] at e
      cases e
      omega
  · obtain ⟨h1, h2, h3⟩ := h.tm p hp
    refine ⟨blk_grown h1 hg h2, fun e => ?_, h3⟩
    rcases hw with hw | hw
    · exact h2 (hw ▸ e)
    · have := h1.1
      rw [hw] at e
      have e := Option.some.inj e
      omega
theorem RS.swap (h : RS B W u1 u2 m1 m2 xs1 xs2 S) : RS B W u2 u1 m2 m1 xs2 xs1 S :=
  ⟨h.lt, h.r2, h.r1, fun g e e2 => h.ap g e2 e, fun p hp => ⟨(h.tm p hp).1, (h.tm p hp).2.2, (h.tm p hp).2.1⟩⟩
theorem RS.app2 (h : RS B W u1 u2 m1 m2 xs1 xs2 S) {W' : World} {v' : Value} {m' : Nat} {ys : List Value} (hown : W'.ownsRow (B + 1) 3 1 v' m' ys) (hg : W.grownBy W' u2.ownBlock) (hw : v'.ownBlock = u2.ownBlock ∨ v'.ownBlock = some W.heap.size) :
    RS B W' u1 v' m1 m' xs1 ys S ∧ Below (B + 1) W W' := by
  obtain ⟨h1, h2⟩ := h.swap.app1 hown hg hw
  exact ⟨h1.swap, h2⟩
theorem RS.set (h : RS B W u1 u2 m1 m2 xs1 xs2 S) (i : Nat) (v : Value) : RS B (W.setCell ⟨B, i, none⟩ v) u1 u2 m1 m2 xs1 xs2 [] :=
  ⟨by simpa [World.setCell] using h.lt, ownsRow_setCell_below h.r1 (Nat.lt_succ_self B) v, ownsRow_setCell_below h.r2 (Nat.lt_succ_self B) v, h.ap, fun p hp => by cases hp⟩
end
theorem gi_rev {l : List Int} {k : Nat} (h : k < l.length) : gi l.reverse k = gi l (l.length - 1 - k) := by
  rw [gi_lt (by rw [List.length_reverse]; exact h), gi_lt (by omega), List.getElem_reverse]
theorem chkC_of {ks fs : List Int} (h : ChOk ks fs) (hn : 0 < ks.length) : (chkC ks fs).2 = 0 := by
  have hl := h.len
  have hf := h.few
  have e0 : chE0 ks fs = 0 := by
    unfold chE0
    rw [decide_eq_true (show (0 : Int) < ks.length by omega), show ((fs.length : Int) == ks.length) = true by rw [beq_iff_eq]; omega, decide_eq_true (show (ks.length : Int) ≤ 6 by omega)]
    rfl
  unfold chkC
  rw [if_pos e0, eachR_all ks.length 0 (fun j _ hj => ?_)]
  unfold nodE
  have h1 := h.k1 j (by omega)
  have h2 := h.f1 j (by omega)
  rw [decide_eq_true h1.1, decide_eq_true h1.2, decide_eq_true h2.1, decide_eq_true h2.2]
  rfl
end
section
open Go.RowKit
attribute [local go_sem] Oper.semAt_some

theorem rtCor : RowTy Tryz.prog 143 219 2 16 (.agg #[.int .i64 0, .int .i64 0]) := by
  obtain ⟨i, h1, h2, h3, h4⟩ := info_parts (show (Tryz.prog.info? 219).map (fun i => (i.zero, i.size, i.bytes)) = some (some (.agg #[.int .i64 0, .int .i64 0]), 2, 16) by kernel_rfl)
  exact ⟨by kernel_rfl, ⟨i, h1, h2, h3, h4⟩, rfl, by omega, by omega⟩
theorem ownsRow_sl {W : World} {n₀ : Nat} {e : TypeId} {s : Nat} {v : Value} {n : Nat} {xs : List Value} (h : W.ownsRow n₀ e s v n xs) : ∃ a c, v = .slice a n c := by
  rcases h.2 with ⟨e, h0⟩ | ⟨g, cap', cur, e, -⟩
  · cases e; rw [h0]; exact ⟨_, _, rfl⟩
  · cases e; exact ⟨_, _, rfl⟩
theorem fcells_take {l : List (Int × Int)} {k : Nat} (hk : k < l.length) : fcells (l.take (k + 1)) = fcells (l.take k) ++ [.int .i64 (fg l k).1, .int .i64 (fg l k).2] := by
  rw [List.take_succ_eq_append_getElem hk]
  unfold fcells fg
  rw [List.flatMap_append, List.getD_eq_getElem?_getD, List.getElem?_eq_getElem hk]
  rfl

theorem grown_setC (w : World) (p : Addr) (v : Value) : w.grownBy (w.setCell p v) (some p.block) :=
  ⟨rfl, rfl, rfl, by simp [World.setCell], fun i _ hi => Below.heap_setCell _ _ _ _ (fun e => hi (by rw [e]))⟩

structure OpnSt (p : Plt) (a : Option Addr) (cap : Nat) (w : World) (B k : Nat) (v : Value) (wr : World) : Prop where
  box : Blk wr B #[.slice a p.pts.length cap, .int .i64 p.pump, .int .i64 p.on, .int .i64 p.off, v]
  res : Blk wr (w.heap.size + 1) #[.slice none 0 0, .int .i64 0, .int .i64 0, .int .i64 0, .slice none 0 0]
  own : wr.ownsRow (B + 1) 219 2 v k (fcells (p.pts.take k))
  bel : Below w.heap.size w wr

def OpnPost (p : Plt) (a : Option Addr) (cap : Nat) (w : World) (e : Ending) (w' : World) : Prop :=
  ∃ al cl, e = .returned (.tuple #[.agg (plL p a cap al cl), .int .i64 (chP p).2]) ∧ p.pts.length ≤ cl ∧ Reads w' al (p.pts.length * 2) (fracs p.pts) ∧ Below w.heap.size w w' ∧ ∀ q, al = some q → w.heap.size ≤ q.block

set_option maxHeartbeats 3200000 in
set_option maxRecDepth 100000 in
theorem open_any (p : Plt) (a : Option Addr) (cap : Nat) (w : World) (hlen : p.pts.length ≤ 1000) (hr : Reads w a (p.pts.length * 2) (fracs p.pts)) :
    Calls Tryz.prog 122 #[.agg (plC p a cap)] w (OpnPost p a cap w) := by
  have HCP := zH (fun W (hb : Below w.heap.size w W) => CheckPlant_any p a cap W (by omega) (hr.to hb))
  have HR := zH hr
  obtain ⟨n, hn⟩ : ∃ n, p.pts.length = n := ⟨_, rfl⟩
  have HPN := zH hn
  have HP : Hid (∀ e w', (∃ al cl, e = .returned (.tuple #[.agg #[.slice a n cap, .int .i64 p.pump, .int .i64 p.on, .int .i64 p.off, .slice al n cl], .int .i64 (chP p).2]) ∧ n ≤ cl ∧ Reads w' al (n * 2) (fracs p.pts) ∧ Below w.heap.size w w' ∧ ∀ q, al = some q → w.heap.size ≤ q.block) → OpnPost p a cap w e w') := zH (fun e w' h => by rw [← hn] at h; exact h)
  have HI0 : Hid (∀ B k v wr, OpnSt p a cap w B k v wr → Blk wr B #[.slice a n cap, .int .i64 p.pump, .int .i64 p.on, .int .i64 p.off, v]) := zH (fun B k v wr h => by have := h.box; rw [hn] at this; exact this)
  have HI1 : Hid (∀ B k v wr, Blk wr B #[.slice a n cap, .int .i64 p.pump, .int .i64 p.on, .int .i64 p.off, v] → Blk wr (w.heap.size + 1) #[.slice none 0 0, .int .i64 0, .int .i64 0, .int .i64 0, .slice none 0 0] → wr.ownsRow (B + 1) 219 2 v k (fcells (p.pts.take k)) → Below w.heap.size w wr → OpnSt p a cap w B k v wr) := zH (fun B k v wr h1 h2 h3 h4 => ⟨by rw [hn]; exact h1, h2, h3, h4⟩)
  obtain ⟨e1, he1⟩ : ∃ e, (chP p).1 = e := ⟨_, rfl⟩
  obtain ⟨e2, he2⟩ : ∃ e, (chP p).2 = e := ⟨_, rfl⟩
  obtain ⟨pump, hpump⟩ : ∃ e, p.pump = e := ⟨_, rfl⟩
  obtain ⟨on, hon⟩ : ∃ e, p.on = e := ⟨_, rfl⟩
  obtain ⟨off', hoff⟩ : ∃ e, p.off = e := ⟨_, rfl⟩
  unfold plC at HCP ⊢
  rw [he1, he2, hn, hpump, hon, hoff] at HCP
  rw [he2, hpump, hon, hoff] at HP
  rw [hpump, hon, hoff] at HI0 HI1
  rw [hn] at HR hlen
  rw [hn, hpump, hon, hoff]
  clear hr he1 he2 hpump hon hoff hn
  go_enter Tryz.func122, Tryz.ntmps122
  go_wp2_with fail
  refine (HCP.out _ (bAlloc (bAlloc (bSelf w) _) _)).mono ?_
  rintro e w1 ⟨rfl, hb⟩
  have K0 : Hid (Blk w1 w.heap.size #[.slice a n cap, .int .i64 pump, .int .i64 on, .int .i64 off']) := zH (((Blk.new _ _ _).alloc _).to hb)
  have K1 : Hid (Blk w1 (w.heap.size + 1) #[.slice none 0 0, .int .i64 0, .int .i64 0, .int .i64 0, .slice none 0 0]) := zH ((Blk.newAt _ _ _ (by simp)).to hb)
  have HB := zH (bThen (bAlloc (bAlloc (bSelf w) _) _) hb)
  clear hb HCP
  obtain ⟨hs0, k0, -⟩ := K0.out
  have hs1 := K1.out.1
  go_wp2_with fail
  obtain ⟨W, hW⟩ : ∃ W, w1.alloc (.cells #[.slice a n cap, .int .i64 pump, .int .i64 on, .int .i64 off', .slice none 0 0] 145) = W := ⟨_, rfl⟩
  rw [hW]
  have hB : w1.heap.size + 1 = W.heap.size := by subst hW; simp
  have HS : Hid (OpnSt p a cap w w1.heap.size 0 (.slice none 0 0) W) := by
    refine zH (HI1.out _ _ _ _ ?_ ?_ ?_ ?_)
    · subst hW; exact Blk.new _ _ _
    · subst hW; exact K1.out.alloc _
    · exact ⟨by simp [fcells], .inl ⟨rfl, rfl⟩⟩
    · subst hW; exact bAlloc HB.out _
  have hB' : w1.heap.size < W.heap.size := by omega
  have hnD : ∀ i, i < n → i < p.pts.length := fun i hi => by have := HPN.out; omega
  have HND := zH hnD
  clear hW hB k0 K0 K1 HB hnD
  go_loopw [8, 19] (fun _ i wr => ∃ (k : Nat) (v : Value), i = .int .i64 k ∧ k ≤ n ∧ Hid (OpnSt p a cap w w1.heap.size k v wr) ∧ w1.heap.size < wr.heap.size) (fun _ i _ => n - (intOf i).toNat)
  case atStart => exact ⟨0, _, rfl, Nat.zero_le _, HS, hB'⟩
  case round =>
    obtain ⟨k, v, rfl, hk, HI, hsz⟩ := hrel
    obtain ⟨va, vc, rfl⟩ := ownsRow_sl HI.out.own
    have KB := zH (HI0.out _ _ _ _ HI.out)
    by_cases hlt : k < n
    · obtain ⟨b, off, rfl, hb, hc⟩ := (HR.out.to HI.out.bel).at (k := k * 2) (by omega)
      obtain ⟨x, hx⟩ : ∃ x, (fg p.pts k).1 = x := ⟨_, rfl⟩
      obtain ⟨y, hy⟩ : ∃ x, (fg p.pts k).2 = x := ⟨_, rfl⟩
      have c0 : wr.cell? ⟨b, off + k * 2, none⟩ = some (.int .i64 x) := by have := hc (k * 2) (by omega); rw [fracs0, hx] at this; exact this
      have c1 : wr.cell? ⟨b, off + k * 2 + 1, none⟩ = some (.int .i64 y) := by have := hc (k * 2 + 1) (by omega); rw [fracs1, hy] at this; exact this
      have HT := zH (fcells_take (HND.out k hlt))
      rw [hx, hy] at HT
      clear hc hx hy
      obtain ⟨-, kb, fb⟩ := KB.out
      have HROW := zH ((HI.out.own.alloc (.cells #[.int .i64 x, .int .i64 y] 140)).alloc (.cells #[.int .i64 x, .int .i64 y] 219))
      have HNN := zH (Blk.new (wr.alloc (.cells #[.int .i64 x, .int .i64 y] 140)) #[.int .i64 x, .int .i64 y] 219).news
      have hlo := zH HI.out.own.lt
      go_wp2_with (at_builtin; go_loud (refine wpList_app (w1.heap.size + 1) rtCor rfl (.tmp 24) (.tmp 30) rfl _ k _ rfl HROW.out ⟨wr.heap.size + 1, 0, none⟩ 1 1 [.int .i64 x, .int .i64 y] rfl rfl (by simpa using HNN.out) (ones [x, y]) (by unfold maxLen; omega) (by omega) (by simp; omega) ?_; intro v' w7 hown' hgrow _ hwhere; obtain ⟨va', vc', rfl⟩ := ownsRow_sl hown'; have HO := zH hown'; have HG7 := zH hgrow; have HW7 := zH hwhere; have hb7 : Blk w7 w1.heap.size #[.slice (some ⟨b, off, none⟩) n cap, .int .i64 pump, .int .i64 on, .int .i64 off', .slice va k vc] := blk_grown ((KB.out.alloc _).alloc _) hgrow (fun e => by have := (hlo.out _ e).1; omega); have KB7 := zH hb7; obtain ⟨hs7, kb7, fb7⟩ := hb7; clear hown' hgrow hwhere))
      have HB7 : Hid (Below (w1.heap.size + 1) wr w7) := zH ((((Below.refl _ _).alloc (show w1.heap.size + 1 ≤ wr.heap.size by omega) _).alloc (by simp; omega) _).grown HG7.out (by simp; omega) (fun k e => (hlo.out k e).1))
      go_roundw
      case rel =>
        refine ⟨k + 1, _, by go_num, by omega, zH (HI1.out _ _ _ _ (KB7.out.set 4 _) ?_ ?_ ?_), ?_⟩
        · exact (HI.out.res.below HB7.out (by omega)).other (p := ⟨w1.heap.size, 4, none⟩) (by simp; omega) _
        · have := HO.out
          rw [HT.out]
          exact this.kept (grown_setC w7 ⟨w1.heap.size, 4, none⟩ _) (.inr (fun e => by have := (HO.out.lt _ e).1; dsimp only at this; omega))
        · exact (HI.out.bel.trans (HB7.out.mono (by omega))).setCell (p := ⟨w1.heap.size, 4, none⟩) (by simp; omega) _
        · simp [World.setCell]; omega
      case measure => simp [intOf]; omega
    · obtain rfl : n = k := by omega
      obtain ⟨hsb, kb, -⟩ := KB.out
      obtain ⟨hsr, kr, fr'⟩ := HI.out.res
      have HRES := zH HI.out.res
      go_wp2_with fail
      have F := ((((HRES.out.set 0 (.slice a n cap)).set 1 (.int .i64 pump)).set 2 (.int .i64 on)).set 3 (.int .i64 off')).set 4 (.slice va n vc)
      have F0 := F.2.1 0
      have F1 := F.2.1 1
      have F2 := F.2.1 2
      have F3 := F.2.1 3
      have F4 := F.2.1 4
      clear F kr fr' kb
      refine bodyPost_ret (v := .tuple #[.agg #[.slice a n cap, .int .i64 pump, .int .i64 on, .int .i64 off', .slice va n vc], .int .i64 e2]) ?_ rfl (HP.out _ _ ⟨va, vc, rfl, ?_⟩)
      · simp [results, Tryz.results122, go_sem, F0, F1, F2, F3, F4]
      · have hrow := HI.out.own
        have hl : p.pts.take n = p.pts := by rw [← HPN.out, List.take_length]
        rw [hl] at hrow
        obtain ⟨a', cap', e, hcp, hrd, hfr⟩ := Reads.of_row (f := fracs p.pts) hrow (fun i hi => fcells_get p.pts i (by rw [HPN.out]; exact hi))
        cases e
        have hb5 : Below (w.heap.size + 1) wr (((((wr.setCell ⟨w.heap.size + 1, 0, none⟩ (.slice a n cap)).setCell ⟨w.heap.size + 1, 1, none⟩ (.int .i64 pump)).setCell ⟨w.heap.size + 1, 2, none⟩ (.int .i64 on)).setCell ⟨w.heap.size + 1, 3, none⟩ (.int .i64 off')).setCell ⟨w.heap.size + 1, 4, none⟩ (.slice va n vc)) :=
          (((((Below.refl _ _).setCell (p := ⟨w.heap.size + 1, 0, none⟩) (Nat.le_refl _) _).setCell (p := ⟨w.heap.size + 1, 1, none⟩) (Nat.le_refl _) _).setCell (p := ⟨w.heap.size + 1, 2, none⟩) (Nat.le_refl _) _).setCell (p := ⟨w.heap.size + 1, 3, none⟩) (Nat.le_refl _) _).setCell (p := ⟨w.heap.size + 1, 4, none⟩) (Nat.le_refl _) _
        refine ⟨hcp, ?_, HI.out.bel.trans (hb5.mono (Nat.le_succ _)), fun q hq => ?_⟩
        · have hne : ∀ b off, va = some ⟨b, off, none⟩ → b ≠ w.heap.size + 1 := fun b off e => by have := hfr _ e; dsimp only at this; omega
          exact ((((hrd.other ⟨w.heap.size + 1, 0, none⟩ _ hne).other ⟨w.heap.size + 1, 1, none⟩ _ hne).other ⟨w.heap.size + 1, 2, none⟩ _ hne).other ⟨w.heap.size + 1, 3, none⟩ _ hne).other ⟨w.heap.size + 1, 4, none⟩ _ hne
        · have := hfr q hq; omega
end
section
set_option maxRecDepth 100000
open Go.ChangeShapes Go.WideShapes Go.ChangeAt Go.RowKit

theorem range_of {H : Type} {enc : TypeId × Value → H} {W : World} {base fuel : Nat} {spare : Nat → Bool} {held : Bool} {cs : List Value} {y : DataW H × List MemPlace} (h : DataW.trod enc Tryz.prog W base spare held fuel 23 cs = some y) :
    ∃ p : Int × Int, cs = [.int .i64 p.1, .int .i64 p.2] := by
  obtain ⟨y0, y1, m, _, hl, h0, h1⟩ := trod_struct2 Tryz.underlying23 h
  have hl3 : cs.length = 2 := hl.trans (by kernel_rfl)
  have hc1 : Tryz.prog.cellsOf 3 = 1 := by kernel_rfl
  match cs, hl3 with
  | [a, b], _ =>
    simp only [hc1] at h0 h1
    obtain ⟨n0, e0, -, -⟩ := DataW.trod_int Tryz.underlying3 h0
    obtain ⟨n1, e1, -, -⟩ := DataW.trod_int Tryz.underlying3 h1
    simp at e0 e1
    exact ⟨(n0, n1), by rw [e0, e1]⟩

theorem open_ranges' {H : Type} {enc : TypeId × Value → H} {W : World} {fuel : Nat} {cs : List Value} {x : DataW H × List MemPlace} (hf : DataW.trod enc Tryz.prog W 0 (fun _ => true) true fuel 54 cs = some x) :
    ∃ (ms : List (Int × Int)) (a : Option Addr) (cap : Nat), cs = [.slice a ms.length cap] ∧ ms.length ≤ maxLen ∧ ms.length ≤ cap ∧ Reads W a (ms.length * 2) (fracs ms) := by
  rcases DataW.trod_slice Tryz.underlying54 hf with ⟨hcs, -⟩ | ⟨x, len0, cap0, elems, rest, n, _, hcs, _, hb, hl, hm, hlen, hel, -, -⟩
  · exact ⟨[], none, 0, hcs, Nat.zero_le _, Nat.zero_le _, .inl rfl⟩
  · have hc3 : Tryz.prog.cellsOf 23 = 2 := by kernel_rfl
    have hex : ∀ i : Nat, ∃ q : Int × Int, i < len0 → ∀ k, k < 2 → W.cell? (x.add (i * 2) |>.add k) = ([Value.int .i64 q.1, .int .i64 q.2] : List Value)[k]? := by
      intro i
      by_cases hi : i < len0
      · have h1 := hel i hi
        rw [hc3, List.getElem?_eq_getElem (by omega)] at h1
        obtain ⟨cs', hcs, hy⟩ := Option.bind_eq_some_iff.1 h1
        obtain ⟨q, rfl⟩ := range_of hy
        obtain ⟨-, -, h3⟩ := World.cells?_some hcs
        exact ⟨q, fun _ k hk => h3 k hk⟩
      · exact ⟨(0, 0), fun h => absurd h hi⟩
    obtain ⟨f, hf⟩ := Classical.axiomOfChoice hex
    have hml : ((List.range len0).map f).length = len0 := by simp
    have hg : ∀ i, i < len0 → fg ((List.range len0).map f) i = f i := fun i hi => by
      unfold fg
      rw [List.getD_eq_getElem?_getD, List.getElem?_map, List.getElem?_range (by omega)]
      rfl
    refine ⟨(List.range len0).map f, some x, cap0, by rw [hml]; exact hcs, by rw [hml]; omega, by rw [hml]; exact hl, ?_⟩
    rw [hml]
    by_cases h0 : len0 = 0
    · exact .inl (by rw [h0])
    · have hc := hf 0 (by omega) 0 (by omega)
      obtain ⟨b, off, spot⟩ := x
      have hspot : spot = none := by simpa [Addr.add] using World.cell?_spot hc
      subst hspot
      have hadd : ∀ i j, ((⟨b, off, none⟩ : Addr).add i).add j = ⟨b, off + (i + j), none⟩ := by intro i j; unfold Addr.add; split <;> split <;> simp_all <;> omega
      refine .inr ⟨b, off, rfl, ?_, fun i hi => ?_⟩
      · have := cell_lt hc; rwa [hadd] at this
      · have h3 := hf (i / 2) (by omega) (i % 2) (Nat.mod_lt _ (by decide))
        rw [hadd, show i / 2 * 2 + i % 2 = i by omega] at h3
        rw [h3]
        unfold fracs
        rw [hg _ (by omega)]
        have hcase : i % 2 = 0 ∨ i % 2 = 1 := by omega
        rcases hcase with h | h <;> rw [h] <;> rfl
end
section
open Go.ChangeShapes Go.WideShapes Go.ChangeAt Go.RowKit

theorem arrTwo {cs : Array Value} (h : cs.size = 2) : ∃ a b, cs = #[a, b] := by
  obtain ⟨l⟩ := cs
  match l, h with
  | [a, b], _ => exact ⟨a, b, rfl⟩

set_option maxRecDepth 100000 in
theorem open_asked {H : Type} {enc : TypeId × Value → H} {W : World} {v : Value} {d : DataW H} {p : List MemPlace} {base : Nat} (hv : Value.okWide Tryz.prog W .any base 56 v) (h : DataW.Trod enc Tryz.prog W 0 (fun _ => true) true 56 v d p) :
    ∃ (c : List (Int × Int)) (n : Int) (ac : Option Addr) (cc : Nat), v = .agg #[.slice ac c.length cc, .int .i64 n] ∧ c.length ≤ maxLen ∧ c.length ≤ cc ∧ Reads W ac (c.length * 2) (fracs c) := by
  obtain ⟨fs, hu⟩ : ∃ fs, Tryz.prog.underlying 56 = some (.struct fs) := ⟨_, Tryz.underlying56⟩
  simp only [Value.okWide, hu] at hv
  obtain ⟨cs, rfl, hs, -⟩ := hv
  obtain ⟨a, b, rfl⟩ := arrTwo (hs.trans (show Tryz.prog.cellsOf 56 = 2 by kernel_rfl))
  obtain ⟨fuel, hf⟩ := h
  obtain ⟨y0, y1, m, _, -, h0, h1⟩ := trod_struct2 Tryz.underlying56 hf
  have hc1 : Tryz.prog.cellsOf 54 = 1 := by kernel_rfl
  have hc3 : Tryz.prog.cellsOf 3 = 1 := by kernel_rfl
  simp only [hc1, hc3] at h0 h1
  obtain ⟨zs, a1, c1, e0, l0, k0, r0⟩ := open_ranges' h0
  obtain ⟨n3, e2, -, -⟩ := DataW.trod_int Tryz.underlying3 h1
  simp [Value.cells] at e0 e2
  exact ⟨zs, n3, a1, c1, by rw [e0, e2], l0, k0, r0⟩
end
end Go.Proofs.YtbpcapcgbnbknaaGreat
