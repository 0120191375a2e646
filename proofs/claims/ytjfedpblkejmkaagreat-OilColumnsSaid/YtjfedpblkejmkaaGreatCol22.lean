/-
  Texts of this claim, in their build order: Lib13 OA6 OA7 OP16 OA8.
-/
import Derived.Test.YtjfedpblkejmkaaGreatCol17
import Derived.Test.YtjfedpblkejmkaaGreatCol5
import Derived.Test.YtjfedpblkejmkaaGreatCol6
import Derived.Test.YtjfedpblkejmkaaGreatCol2
import Derived.Test.YtjfedpblkejmkaaGreatCol4
import Derived.Lib.AppendZerosOnto
import Derived.Test.YtjfedpblkejmkaaGreatCol21
import Derived.Test.YtjfedpblkejmkaaGreatCol19

/-
  Two rows of whole numbers that grow by turns, in the memory beyond a box that holds them.
-/
namespace Go.Proofs.YtjfedpblkejmkaaGreat
open Go.RowKit

/-- Two rows beyond block B, apart from each other and from some cells laid for them. -/
structure RS (B : Nat) (W : World) (u1 u2 : Value) (m1 m2 : Nat) (xs1 xs2 : List Value) (S : List (Nat × Int)) : Prop where
  lt : B < W.heap.size
  r1 : W.ownsRow (B + 1) 3 1 u1 m1 xs1
  r2 : W.ownsRow (B + 1) 3 1 u2 m2 xs2
  ap : ∀ g, u1.ownBlock = some g → u2.ownBlock ≠ some g
  tm : ∀ p ∈ S, Blk W p.1 #[.int .i64 p.2] ∧ u1.ownBlock ≠ some p.1 ∧ u2.ownBlock ≠ some p.1
section
variable {B : Nat} {W : World} {u1 u2 : Value} {m1 m2 : Nat} {xs1 xs2 : List Value} {S : List (Nat × Int)}
theorem RS.to (h : RS B W u1 u2 m1 m2 xs1 xs2 S) {W' : World} (hb : Below W.heap.size W W') : RS B W' u1 u2 m1 m2 xs1 xs2 S :=
  ⟨Nat.lt_of_lt_of_le h.lt hb.size, owns_to h.r1 hb, owns_to h.r2 hb, h.ap, fun p hp => ⟨(h.tm p hp).1.to hb, (h.tm p hp).2⟩⟩
theorem RS.alloc (h : RS B W u1 u2 m1 m2 xs1 xs2 S) (x : Int) (T : TypeId) : RS B (W.alloc (.cells #[.int .i64 x] T)) u1 u2 m1 m2 xs1 xs2 ((W.heap.size, x) :: S) := by
  have hb : Below W.heap.size W (W.alloc (.cells #[.int .i64 x] T)) := bAlloc (bSelf W) _
  have h' := h.to hb
  refine ⟨h'.lt, h'.r1, h'.r2, h.ap, fun p hp => ?_⟩
  rcases List.mem_cons.1 hp with rfl | hp
  · exact ⟨Blk.new _ _ _, fun e => by have := (h.r1.lt _ e).2; dsimp only at this; omega, fun e => by have := (h.r2.lt _ e).2; dsimp only at this; omega⟩
  · exact h'.tm p hp
theorem RS.belowA (h : RS B W u1 u2 m1 m2 xs1 xs2 S) (o : Obj) : Below (B + 1) W (W.alloc o) := (Below.refl _ _).alloc h.lt o
theorem blk_grown {W W' : World} {b : Nat} {cs : Array Value} {row : Option Nat} (h : Blk W b cs) (hg : W.grownBy W' row) (hne : row ≠ some b) : Blk W' b cs := by
  have hb := hg.block b h.1 (fun e => hne e.symm)
  exact ⟨Nat.lt_of_lt_of_le h.1 hg.size, fun o => (World.cell?_of_block (a := ⟨b, o, none⟩) hb).trans (h.2.1 o), fun o => (World.frozen?_of_block (a := ⟨b, o, none⟩) hb).trans (h.2.2 o)⟩
theorem RS.app1 (h : RS B W u1 u2 m1 m2 xs1 xs2 S) {W' : World} {v' : Value} {m' : Nat} {ys : List Value} (hown : W'.ownsRow (B + 1) 3 1 v' m' ys) (hg : W.grownBy W' u1.ownBlock) (hw : v'.ownBlock = u1.ownBlock ∨ v'.ownBlock = some W.heap.size) :
    RS B W' v' u2 m' m2 ys xs2 S ∧ Below (B + 1) W W' := by
  refine ⟨⟨Nat.lt_of_lt_of_le h.lt hg.size, hown, h.r2.kept hg ?_, fun g e e2 => ?_, fun p hp => ?_⟩, (Below.refl _ _).grown hg h.lt (fun k e => (h.r1.lt k e).1)⟩
  · cases hv : u2.ownBlock with
    | none => exact .inl rfl
    | some g => exact .inr (fun e => h.ap g e.symm hv)
  · rcases hw with hw | hw
    · exact h.ap g (hw ▸ e) e2
    · have := (h.r2.lt g e2).2
      rw [hw] at e
      cases e
      omega
  · obtain ⟨h1, h2, h3⟩ := h.tm p hp
    refine ⟨blk_grown h1 hg h2, fun e => ?_, h3⟩
    rcases hw with hw | hw
    · exact h2 (hw ▸ e)
    · have := h1.1
      rw [hw] at e
      have e := Option.some.inj e
      omega
theorem RS.swap (h : RS B W u1 u2 m1 m2 xs1 xs2 S) : RS B W u2 u1 m2 m1 xs2 xs1 S :=
  ⟨h.lt, h.r2, h.r1, fun g e e2 => h.ap g e2 e, fun p hp => ⟨(h.tm p hp).1, (h.tm p hp).2.2, (h.tm p hp).2.1⟩⟩
theorem RS.app2 (h : RS B W u1 u2 m1 m2 xs1 xs2 S) {W' : World} {v' : Value} {m' : Nat} {ys : List Value} (hown : W'.ownsRow (B + 1) 3 1 v' m' ys) (hg : W.grownBy W' u2.ownBlock) (hw : v'.ownBlock = u2.ownBlock ∨ v'.ownBlock = some W.heap.size) :
    RS B W' u1 v' m1 m' xs1 ys S ∧ Below (B + 1) W W' := by
  obtain ⟨h1, h2⟩ := h.swap.app1 hown hg hw
  exact ⟨h1.swap, h2⟩
theorem RS.set (h : RS B W u1 u2 m1 m2 xs1 xs2 S) (i : Nat) (v : Value) : RS B (W.setCell ⟨B, i, none⟩ v) u1 u2 m1 m2 xs1 xs2 [] :=
  ⟨by simpa [World.setCell] using h.lt, ownsRow_setCell_below h.r1 (Nat.lt_succ_self B) v, ownsRow_setCell_below h.r2 (Nat.lt_succ_self B) v, h.ap, fun p hp => by cases hp⟩
end
theorem gi_rev {l : List Int} {k : Nat} (h : k < l.length) : gi l.reverse k = gi l (l.length - 1 - k) := by
  rw [gi_lt (by rw [List.length_reverse]; exact h), gi_lt (by omega), List.getElem_reverse]
theorem chkC_of {ks fs : List Int} (h : ChOk ks fs) (hn : 0 < ks.length) : (chkC ks fs).2 = 0 := by
  have hl := h.len
  have hf := h.few
  have e0 : chE0 ks fs = 0 := by
    unfold chE0
    rw [decide_eq_true (show (0 : Int) < ks.length by omega), show ((fs.length : Int) == ks.length) = true by rw [beq_iff_eq]; omega, decide_eq_true (show (ks.length : Int) ≤ 6 by omega)]
    rfl
  unfold chkC
  rw [if_pos e0, eachR_all ks.length 0 (fun j _ hj => ?_)]
  unfold nodE
  have h1 := h.k1 j (by omega)
  have h2 := h.f1 j (by omega)
  rw [decide_eq_true h1.1, decide_eq_true h1.2, decide_eq_true h2.1, decide_eq_true h2.2]
  rfl

end Go.Proofs.YtjfedpblkejmkaaGreat

/-
  A plant is opened: its line.
-/
namespace Go.Proofs.YtjfedpblkejmkaaGreat
open Go.RowKit
attribute [local go_sem] Oper.semAt_some

theorem rtCor : RowTy Tryz.prog 168 225 2 16 (.agg #[.int .i64 0, .int .i64 0]) := by
  obtain ⟨i, h1, h2, h3, h4⟩ := info_parts (show (Tryz.prog.info? 225).map (fun i => (i.zero, i.size, i.bytes)) = some (some (.agg #[.int .i64 0, .int .i64 0]), 2, 16) by kernel_rfl)
  exact ⟨by kernel_rfl, ⟨i, h1, h2, h3, h4⟩, rfl, by omega, by omega⟩
theorem ownsRow_sl {W : World} {n₀ : Nat} {e : TypeId} {s : Nat} {v : Value} {n : Nat} {xs : List Value} (h : W.ownsRow n₀ e s v n xs) : ∃ a c, v = .slice a n c := by
  rcases h.2 with ⟨e, h0⟩ | ⟨g, cap', cur, e, -⟩
  · cases e; rw [h0]; exact ⟨_, _, rfl⟩
  · cases e; exact ⟨_, _, rfl⟩
theorem fcells_take {l : List (Int × Int)} {k : Nat} (hk : k < l.length) : fcells (l.take (k + 1)) = fcells (l.take k) ++ [.int .i64 (fg l k).1, .int .i64 (fg l k).2] := by
  rw [List.take_succ_eq_append_getElem hk]
  unfold fcells fg
  rw [List.flatMap_append, List.getD_eq_getElem?_getD, List.getElem?_eq_getElem hk]
  rfl

theorem grown_setC (w : World) (p : Addr) (v : Value) : w.grownBy (w.setCell p v) (some p.block) :=
  ⟨rfl, rfl, rfl, by simp [World.setCell], fun i _ hi => Below.heap_setCell _ _ _ _ (fun e => hi (by rw [e]))⟩

structure OpnSt (p : Plt) (a : Option Addr) (cap : Nat) (w : World) (B k : Nat) (v : Value) (wr : World) : Prop where
  box : Blk wr B #[.slice a p.pts.length cap, .int .i64 p.pump, .int .i64 p.on, .int .i64 p.off, v]
  res : Blk wr (w.heap.size + 1) #[.slice none 0 0, .int .i64 0, .int .i64 0, .int .i64 0, .slice none 0 0]
  own : wr.ownsRow (B + 1) 225 2 v k (fcells (p.pts.take k))
  bel : Below w.heap.size w wr

def OpnPost (p : Plt) (a : Option Addr) (cap : Nat) (w : World) (e : Ending) (w' : World) : Prop :=
  ∃ al cl, e = .returned (.tuple #[.agg (plL p a cap al cl), .int .i64 (chP p).2]) ∧ p.pts.length ≤ cl ∧ Reads w' al (p.pts.length * 2) (fracs p.pts) ∧ Below w.heap.size w w' ∧ ∀ q, al = some q → w.heap.size ≤ q.block

set_option maxHeartbeats 3200000 in
set_option maxRecDepth 100000 in
theorem open_any (p : Plt) (a : Option Addr) (cap : Nat) (w : World) (hlen : p.pts.length ≤ 1000) (hr : Reads w a (p.pts.length * 2) (fracs p.pts)) :
    Calls Tryz.prog 136 #[.agg (plC p a cap)] w (OpnPost p a cap w) := by
  have HCP := Lib.hid (fun W (hb : Below w.heap.size w W) => CheckPlant_any p a cap W (by omega) (hr.to hb))
  have HR := Lib.hid hr
  obtain ⟨n, hn⟩ : ∃ n, p.pts.length = n := ⟨_, rfl⟩
  have HPN := Lib.hid hn
  have HP : Hid (∀ e w', (∃ al cl, e = .returned (.tuple #[.agg #[.slice a n cap, .int .i64 p.pump, .int .i64 p.on, .int .i64 p.off, .slice al n cl], .int .i64 (chP p).2]) ∧ n ≤ cl ∧ Reads w' al (n * 2) (fracs p.pts) ∧ Below w.heap.size w w' ∧ ∀ q, al = some q → w.heap.size ≤ q.block) → OpnPost p a cap w e w') := Lib.hid (fun e w' h => by rw [← hn] at h; exact h)
  have HI0 : Hid (∀ B k v wr, OpnSt p a cap w B k v wr → Blk wr B #[.slice a n cap, .int .i64 p.pump, .int .i64 p.on, .int .i64 p.off, v]) := Lib.hid (fun B k v wr h => by have := h.box; rw [hn] at this; exact this)
  have HI1 : Hid (∀ B k v wr, Blk wr B #[.slice a n cap, .int .i64 p.pump, .int .i64 p.on, .int .i64 p.off, v] → Blk wr (w.heap.size + 1) #[.slice none 0 0, .int .i64 0, .int .i64 0, .int .i64 0, .slice none 0 0] → wr.ownsRow (B + 1) 225 2 v k (fcells (p.pts.take k)) → Below w.heap.size w wr → OpnSt p a cap w B k v wr) := Lib.hid (fun B k v wr h1 h2 h3 h4 => ⟨by rw [hn]; exact h1, h2, h3, h4⟩)
  obtain ⟨e1, he1⟩ : ∃ e, (chP p).1 = e := ⟨_, rfl⟩
  obtain ⟨e2, he2⟩ : ∃ e, (chP p).2 = e := ⟨_, rfl⟩
  obtain ⟨pump, hpump⟩ : ∃ e, p.pump = e := ⟨_, rfl⟩
  obtain ⟨on, hon⟩ : ∃ e, p.on = e := ⟨_, rfl⟩
  obtain ⟨off', hoff⟩ : ∃ e, p.off = e := ⟨_, rfl⟩
  unfold plC at HCP ⊢
  rw [he1, he2, hn, hpump, hon, hoff] at HCP
  rw [he2, hpump, hon, hoff] at HP
  rw [hpump, hon, hoff] at HI0 HI1
  rw [hn] at HR hlen
  rw [hn, hpump, hon, hoff]
  clear hr he1 he2 hpump hon hoff hn
  go_enter Tryz.func136, Tryz.ntmps136
  go_wp2_with fail
  refine (HCP.out _ (bAlloc (bAlloc (bSelf w) _) _)).mono ?_
  rintro e w1 ⟨rfl, hb⟩
  have K0 : Hid (Blk w1 w.heap.size #[.slice a n cap, .int .i64 pump, .int .i64 on, .int .i64 off']) := Lib.hid (((Blk.new _ _ _).alloc _).to hb)
  have K1 : Hid (Blk w1 (w.heap.size + 1) #[.slice none 0 0, .int .i64 0, .int .i64 0, .int .i64 0, .slice none 0 0]) := Lib.hid ((Blk.newAt _ _ _ (by simp)).to hb)
  have HB := Lib.hid (bThen (bAlloc (bAlloc (bSelf w) _) _) hb)
  clear hb HCP
  obtain ⟨hs0, k0, -⟩ := K0.out
  have hs1 := K1.out.1
  go_wp2_with fail
  obtain ⟨W, hW⟩ : ∃ W, w1.alloc (.cells #[.slice a n cap, .int .i64 pump, .int .i64 on, .int .i64 off', .slice none 0 0] 170) = W := ⟨_, rfl⟩
  rw [hW]
  have hB : w1.heap.size + 1 = W.heap.size := by subst hW; simp
  have HS : Hid (OpnSt p a cap w w1.heap.size 0 (.slice none 0 0) W) := by
    refine Lib.hid (HI1.out _ _ _ _ ?_ ?_ ?_ ?_)
    · subst hW; exact Blk.new _ _ _
    · subst hW; exact K1.out.alloc _
    · exact ⟨by simp [fcells], .inl ⟨rfl, rfl⟩⟩
    · subst hW; exact bAlloc HB.out _
  have hB' : w1.heap.size < W.heap.size := by omega
  have hnD : ∀ i, i < n → i < p.pts.length := fun i hi => by have := HPN.out; omega
  have HND := Lib.hid hnD
  clear hW hB k0 K0 K1 HB hnD
  go_loopw [8, 19] (fun _ i wr => ∃ (k : Nat) (v : Value), i = .int .i64 k ∧ k ≤ n ∧ Hid (OpnSt p a cap w w1.heap.size k v wr) ∧ w1.heap.size < wr.heap.size) (fun _ i _ => n - (intOf i).toNat)
  case atStart => exact ⟨0, _, rfl, Nat.zero_le _, HS, hB'⟩
  case round =>
    obtain ⟨k, v, rfl, hk, HI, hsz⟩ := hrel
    obtain ⟨va, vc, rfl⟩ := ownsRow_sl HI.out.own
    have KB := Lib.hid (HI0.out _ _ _ _ HI.out)
    by_cases hlt : k < n
    · obtain ⟨b, off, rfl, hb, hc⟩ := (HR.out.to HI.out.bel).at (k := k * 2) (by omega)
      obtain ⟨x, hx⟩ : ∃ x, (fg p.pts k).1 = x := ⟨_, rfl⟩
      obtain ⟨y, hy⟩ : ∃ x, (fg p.pts k).2 = x := ⟨_, rfl⟩
      have c0 : wr.cell? ⟨b, off + k * 2, none⟩ = some (.int .i64 x) := by have := hc (k * 2) (by omega); rw [fracs0, hx] at this; exact this
      have c1 : wr.cell? ⟨b, off + k * 2 + 1, none⟩ = some (.int .i64 y) := by have := hc (k * 2 + 1) (by omega); rw [fracs1, hy] at this; exact this
      have HT := Lib.hid (fcells_take (HND.out k hlt))
      rw [hx, hy] at HT
      clear hc hx hy
      obtain ⟨-, kb, fb⟩ := KB.out
      have HROW := Lib.hid ((HI.out.own.alloc (.cells #[.int .i64 x, .int .i64 y] 188)).alloc (.cells #[.int .i64 x, .int .i64 y] 225))
      have HNN := Lib.hid (Blk.new (wr.alloc (.cells #[.int .i64 x, .int .i64 y] 188)) #[.int .i64 x, .int .i64 y] 225).news
      have hlo := Lib.hid HI.out.own.lt
      go_wp2_with (at_builtin; go_loud (refine wpList_app (w1.heap.size + 1) rtCor rfl (.tmp 24) (.tmp 30) rfl _ k _ rfl HROW.out ⟨wr.heap.size + 1, 0, none⟩ 1 1 [.int .i64 x, .int .i64 y] rfl rfl (by simpa using HNN.out) (ones [x, y]) (by unfold maxLen; omega) (by omega) (by simp; omega) ?_; intro v' w7 hown' hgrow _ hwhere; obtain ⟨va', vc', rfl⟩ := ownsRow_sl hown'; have HO := Lib.hid hown'; have HG7 := Lib.hid hgrow; have HW7 := Lib.hid hwhere; have hb7 : Blk w7 w1.heap.size #[.slice (some ⟨b, off, none⟩) n cap, .int .i64 pump, .int .i64 on, .int .i64 off', .slice va k vc] := blk_grown ((KB.out.alloc _).alloc _) hgrow (fun e => by have := (hlo.out _ e).1; omega); have KB7 := Lib.hid hb7; obtain ⟨hs7, kb7, fb7⟩ := hb7; clear hown' hgrow hwhere))
      have HB7 : Hid (Below (w1.heap.size + 1) wr w7) := Lib.hid ((((Below.refl _ _).alloc (show w1.heap.size + 1 ≤ wr.heap.size by omega) _).alloc (by simp; omega) _).grown HG7.out (by simp; omega) (fun k e => (hlo.out k e).1))
      go_roundw
      case rel =>
        refine ⟨k + 1, _, by go_num, by omega, Lib.hid (HI1.out _ _ _ _ (KB7.out.set 4 _) ?_ ?_ ?_), ?_⟩
        · exact (HI.out.res.below HB7.out (by omega)).other (p := ⟨w1.heap.size, 4, none⟩) (by simp; omega) _
        · have := HO.out
          rw [HT.out]
          exact this.kept (grown_setC w7 ⟨w1.heap.size, 4, none⟩ _) (.inr (fun e => by have := (HO.out.lt _ e).1; dsimp only at this; omega))
        · exact (HI.out.bel.trans (HB7.out.mono (by omega))).setCell (p := ⟨w1.heap.size, 4, none⟩) (by simp; omega) _
        · simp [World.setCell]; omega
      case measure => simp [intOf]; omega
    · obtain rfl : n = k := by omega
      obtain ⟨hsb, kb, -⟩ := KB.out
      obtain ⟨hsr, kr, fr'⟩ := HI.out.res
      have HRES := Lib.hid HI.out.res
      go_wp2_with fail
      have F := ((((HRES.out.set 0 (.slice a n cap)).set 1 (.int .i64 pump)).set 2 (.int .i64 on)).set 3 (.int .i64 off')).set 4 (.slice va n vc)
      have F0 := F.2.1 0
      have F1 := F.2.1 1
      have F2 := F.2.1 2
      have F3 := F.2.1 3
      have F4 := F.2.1 4
      clear F kr fr' kb
      refine bodyPost_ret (v := .tuple #[.agg #[.slice a n cap, .int .i64 pump, .int .i64 on, .int .i64 off', .slice va n vc], .int .i64 e2]) ?_ rfl (HP.out _ _ ⟨va, vc, rfl, ?_⟩)
      · simp [results, Tryz.results136, go_sem, F0, F1, F2, F3, F4]
      · have hrow := HI.out.own
        have hl : p.pts.take n = p.pts := by rw [← HPN.out, List.take_length]
        rw [hl] at hrow
        obtain ⟨a', cap', e, hcp, hrd, hfr⟩ := Reads.of_row (f := fracs p.pts) hrow (fun i hi => fcells_get p.pts i (by rw [HPN.out]; exact hi))
        cases e
        have hb5 : Below (w.heap.size + 1) wr (((((wr.setCell ⟨w.heap.size + 1, 0, none⟩ (.slice a n cap)).setCell ⟨w.heap.size + 1, 1, none⟩ (.int .i64 pump)).setCell ⟨w.heap.size + 1, 2, none⟩ (.int .i64 on)).setCell ⟨w.heap.size + 1, 3, none⟩ (.int .i64 off')).setCell ⟨w.heap.size + 1, 4, none⟩ (.slice va n vc)) :=
          (((((Below.refl _ _).setCell (p := ⟨w.heap.size + 1, 0, none⟩) (Nat.le_refl _) _).setCell (p := ⟨w.heap.size + 1, 1, none⟩) (Nat.le_refl _) _).setCell (p := ⟨w.heap.size + 1, 2, none⟩) (Nat.le_refl _) _).setCell (p := ⟨w.heap.size + 1, 3, none⟩) (Nat.le_refl _) _).setCell (p := ⟨w.heap.size + 1, 4, none⟩) (Nat.le_refl _) _
        refine ⟨hcp, ?_, HI.out.bel.trans (hb5.mono (Nat.le_succ _)), fun q hq => ?_⟩
        · have hne : ∀ b off, va = some ⟨b, off, none⟩ → b ≠ w.heap.size + 1 := fun b off e => by have := hfr _ e; dsimp only at this; omega
          exact ((((hrd.other ⟨w.heap.size + 1, 0, none⟩ _ hne).other ⟨w.heap.size + 1, 1, none⟩ _ hne).other ⟨w.heap.size + 1, 2, none⟩ _ hne).other ⟨w.heap.size + 1, 3, none⟩ _ hne).other ⟨w.heap.size + 1, 4, none⟩ _ hne
        · have := hfr q hq; omega

end Go.Proofs.YtjfedpblkejmkaaGreat

/-
  openState, PressureAt, Next.
-/
namespace Go.Proofs.YtjfedpblkejmkaaGreat
open Go.RowKit
attribute [local go_sem] Oper.semAt_some

theorem firstE2 {a b : Int} : firstE [a, b] = 0 ↔ a = 0 ∧ b = 0 := by
  unfold firstE firstE firstE
  by_cases h : a = 0
  · rw [if_pos h]; by_cases h2 : b = 0
    · rw [if_pos h2]; exact ⟨fun _ => ⟨h, h2⟩, fun _ => rfl⟩
    · rw [if_neg h2]; exact ⟨fun e => absurd e h2, fun e => absurd e.2 h2⟩
  · rw [if_neg h]; exact ⟨fun e => absurd e h, fun e => absurd e.1 h⟩
theorem unlZ {b : Bool} {k : Int} (hk : k ≠ 0) : unl b k = 0 ↔ b = true := by
  unfold unl; cases b
  · simp [hk]
  · simp
theorem wthn_iff {n lo hi : Int} : wthn n lo hi = true ↔ lo ≤ n ∧ n ≤ hi := by unfold wthn; simp
theorem eachR_ok {err : Nat → Int} : ∀ (n k : Nat), (eachR err k n).2 = 0 → ∀ j, k ≤ j → j < k + n → err j = 0
  | 0, _, _, _, _, _ => by omega
  | n + 1, k, h, j, h1, h2 => by
    unfold eachR at h
    by_cases h0 : err k = 0
    · rw [if_pos h0] at h
      by_cases hj : j = k
      · rw [hj]; exact h0
      · exact eachR_ok n (k + 1) h j (by omega) (by omega)
    · rw [if_neg h0] at h; exact absurd h h0
/-- A plant without an error is a valid one. -/
theorem chP_ok {p : Plt} (h : (chP p).2 = 0) : PltOk p := by
  unfold chP at h
  by_cases h1 : fewE p.pts.length ≠ 0
  · rw [if_pos h1] at h; exact absurd h h1
  · rw [if_neg h1] at h
    have h1' : fewE p.pts.length = 0 := by simpa using h1
    by_cases h2 : (eachR (ptE p.pts) 0 p.pts.length).2 ≠ 0
    · rw [if_pos h2] at h; exact absurd h h2
    · rw [if_neg h2] at h
      have h2' : (eachR (ptE p.pts) 0 p.pts.length).2 = 0 := by simpa using h2
      have h3 : pltE p = 0 := h
      obtain ⟨f1, f2⟩ := firstE2.1 (show firstE [_, _] = 0 from h1')
      rw [unlZ (by decide), decide_eq_true_eq] at f1 f2
      obtain ⟨g1, g2⟩ := firstE2.1 (show firstE [_, _] = 0 from h3)
      rw [unlZ (by decide)] at g1 g2
      simp only [Bool.and_eq_true, wthn_iff, decide_eq_true_eq] at g1 g2
      have hp : ∀ k, k < p.pts.length → (wthn (fg p.pts k).1 0 200 = true ∧ wthn (fg p.pts k).2 0 1000 = true) ∧ ordB p.pts k = true := fun k hk => by
        have := eachR_ok _ _ h2' k (by omega) (by omega)
        obtain ⟨k1, k2⟩ := firstE2.1 (show firstE [_, _] = 0 from this)
        rw [unlZ (by decide)] at k1 k2
        simp only [Bool.and_eq_true] at k1
        exact ⟨k1, k2⟩
      refine ⟨⟨by omega, by omega, ?_, fun k hk => wthn_iff.1 (hp k hk).1.1, fun k hk => wthn_iff.1 (hp k hk).1.2, fun k hk => ?_⟩, g1.1.1, g1.1.2, g1.2, g2⟩
      · have := (hp 0 (by omega)).2
        unfold ordB at this
        rw [if_pos rfl] at this
        simpa using this
      · have := (hp (k + 1) hk).2
        unfold ordB at this
        rw [if_neg (by omega), Nat.add_sub_cancel] at this
        simpa using this

/-- The error of a plant and a state. -/
def opSE (p : Plt) (v : Int) : Int := if (chP p).2 = 0 then unl (decide (0 ≤ v) && decide (v ≤ capV p.pts)) 2 else (chP p).2
theorem opSE_ok {p : Plt} {s : OSt} (h : opSE p s.1 = 0) : PltOk p ∧ StOk p s := by
  unfold opSE at h
  by_cases h1 : (chP p).2 = 0
  · rw [if_pos h1, unlZ (by decide)] at h
    exact ⟨chP_ok h1, by simpa [StOk] using h⟩
  · rw [if_neg h1] at h; exact absurd h h1

def OpsPost (p : Plt) (a : Option Addr) (cap : Nat) (er : Int) (w : World) (e : Ending) (w' : World) : Prop :=
  ∃ al cl, e = .returned (.tuple #[.agg (plL p a cap al cl), .int .i64 er]) ∧ p.pts.length ≤ cl ∧ Reads w' al (p.pts.length * 2) (fracs p.pts) ∧ Below w.heap.size w w' ∧ ∀ q, al = some q → w.heap.size ≤ q.block

set_option maxHeartbeats 3200000 in
set_option maxRecDepth 100000 in
theorem openState_any (p : Plt) (s : OSt) (a : Option Addr) (cap : Nat) (w : World) (hlen : p.pts.length ≤ 1000) (hr : Reads w a (p.pts.length * 2) (fracs p.pts)) :
    Calls Tryz.prog 106 #[.agg (plC p a cap), .agg #[.int .i64 s.1, .bool s.2]] w (OpsPost p a cap (opSE p s.1) w) := by
  have HO := Lib.hid (fun W (hb : Below w.heap.size w W) => open_any p a cap W hlen (hr.to hb))
  have HE : Hid (opSE p s.1 = if (chP p).2 = 0 then unl (decide (0 ≤ s.1) && decide (s.1 ≤ capV p.pts)) 2 else (chP p).2) := Lib.hid rfl
  have HC := Lib.hid (fun W al cl (h0 : (chP p).2 = 0) hr => capacity_any p a al cap cl W (by have := (chP_ok h0).pts.two; omega) (by omega) hr)
  obtain ⟨ch, hch⟩ : ∃ e, (chP p).2 = e := ⟨_, rfl⟩
  obtain ⟨er, her⟩ : ∃ e, opSE p s.1 = e := ⟨_, rfl⟩
  rw [hch] at HE HC
  rw [her] at HE ⊢
  obtain ⟨n, hn⟩ : ∃ n, p.pts.length = n := ⟨_, rfl⟩
  have HP : Hid (∀ w e w', (∃ al cl, e = .returned (.tuple #[.agg #[.slice a n cap, .int .i64 p.pump, .int .i64 p.on, .int .i64 p.off, .slice al n cl], .int .i64 er]) ∧ n ≤ cl ∧ Reads w' al (n * 2) (fracs p.pts) ∧ Below w.heap.size w w' ∧ ∀ q, al = some q → w.heap.size ≤ q.block) → OpsPost p a cap er w e w') := Lib.hid (fun w e w' h => by rw [← hn] at h; exact h)
  have HQ : Hid (∀ w e w', OpnPost p a cap w e w' → ∃ al cl, e = .returned (.tuple #[.agg #[.slice a n cap, .int .i64 p.pump, .int .i64 p.on, .int .i64 p.off, .slice al n cl], .int .i64 ch]) ∧ n ≤ cl ∧ Reads w' al (n * 2) (fracs p.pts) ∧ Below w.heap.size w w' ∧ ∀ q, al = some q → w.heap.size ≤ q.block) := Lib.hid (fun w e w' h => by unfold OpnPost plL at h; rw [hn, hch] at h; exact h)
  clear her hr hch
  obtain ⟨s1, sr⟩ := s
  dsimp only at HE ⊢
  unfold plC at HO ⊢
  obtain ⟨pump, hpump⟩ : ∃ e, p.pump = e := ⟨_, rfl⟩
  obtain ⟨on, hon⟩ : ∃ e, p.on = e := ⟨_, rfl⟩
  obtain ⟨off', hoff⟩ : ∃ e, p.off = e := ⟨_, rfl⟩
  obtain ⟨C, hC⟩ : ∃ c, capV p.pts = c := ⟨_, rfl⟩
  unfold plL at HC
  rw [hn, hpump, hon, hoff] at HO HC ⊢
  rw [hC] at HC HE
  rw [hpump, hon, hoff] at HP HQ
  clear hn hpump hon hoff hC
  by_cases hc : ch = 0
  · subst hc
    rw [if_pos rfl] at HE
    replace HC := Lib.hid (fun W al cl hr => HC.out W al cl rfl hr)
    go_enter Tryz.func106, Tryz.ntmps106
    go_wp2_with fail
    refine (HO.out _ (bAlloc (bAlloc (bAlloc (bSelf w) _) _) _)).mono ?_
    intro e w1 hpost
    obtain ⟨al, cl, rfl, hcl, hrd, hb, hfr⟩ := HQ.out _ _ _ hpost
    have K1 : Hid (Blk w1 (w.heap.size + 1) #[.int .i64 s1, .bool sr]) := Lib.hid (((Blk.newAt _ _ _ (by simp)).alloc _).to hb)
    have K2 : Hid (Blk w1 (w.heap.size + 1 + 1) #[.slice none 0 0, .int .i64 0, .int .i64 0, .int .i64 0, .slice none 0 0]) := Lib.hid ((Blk.newAt _ _ _ (by simp)).to hb)
    have HB := Lib.hid (bThen (bAlloc (bAlloc (bAlloc (bSelf w) _) _) _) hb)
    have HRD := Lib.hid hrd
    have hfr : ∀ q, al = some q → w.heap.size + 3 ≤ q.block := fun q hq => by have := hfr q hq; simp at this; omega
    have HFR := Lib.hid hfr
    clear hb hrd hpost hfr HO HQ
    go_wp2_with fail
    obtain ⟨W, hW⟩ : ∃ W, w1.alloc (.cells #[.slice a n cap, .int .i64 pump, .int .i64 on, .int .i64 off', .slice al n cl] 170) = W := ⟨_, rfl⟩
    rw [hW]
    have K3 : Hid (Blk W w1.heap.size #[.slice a n cap, .int .i64 pump, .int .i64 on, .int .i64 off', .slice al n cl]) := by subst hW; exact Lib.hid (Blk.new _ _ _)
    replace K1 : Hid (Blk W (w.heap.size + 1) #[.int .i64 s1, .bool sr]) := by subst hW; exact Lib.hid (K1.out.alloc _)
    replace K2 : Hid (Blk W (w.heap.size + 1 + 1) #[.slice none 0 0, .int .i64 0, .int .i64 0, .int .i64 0, .slice none 0 0]) := by subst hW; exact Lib.hid (K2.out.alloc _)
    replace HB : Hid (Below w.heap.size w W) := by subst hW; exact Lib.hid (bAlloc HB.out _)
    replace HRD : Hid (Reads W al (n * 2) (fracs p.pts)) := by subst hW; exact Lib.hid (HRD.out.alloc _)
    clear hW
    refine wp_region_quiet_all (fun w' => Below (World.heap W).size (W) w') (by kernel_rfl) (by kernel_rfl) (Below.refl _ _).drew ?_
    refine WQ.out ?_
    repeat (first | (refine WQ_no (by rfl) ?_; (simp only [Act.put, List.setIfInBounds_toArray, List.set_cons_zero, List.set_cons_succ])) | (refine WQ_yes (by rfl) ?_; apply Exists.intro; refine ⟨fun w1 hb1 => ?_, ?_⟩; (focus (((obtain ⟨-, k1, -⟩ := K1.out.to hb1; obtain ⟨-, k3, -⟩ := K3.out.to hb1); have hb1 := Lib.hid hb1; go_simp); (try (go_bits; try go_simp)); (try (rw [if_pos (by omega)]; try go_simp)); (first | done | ((first | (go_at_call 123; refine (HC.out _ al cl (HRD.out.to hb1.out)).mono ?_; rintro e w' ⟨rfl, hb⟩; exact ⟨rfl, bThen hb1.out hb⟩) | (go_at_call 99; refine (oWithin_any _ _ _ _).mono ?_; rintro e w' ⟨rfl, rfl⟩; exact ⟨rfl, hb1.out⟩) | (go_at_call 94; refine (oUnless_any _ _ _).mono ?_; rintro e w' ⟨rfl, rfl⟩; exact ⟨rfl, hb1.out⟩))) | (with_reducible rfl) | exact rfl))); (simp only [Act.put, List.setIfInBounds_toArray, List.set_cons_zero, List.set_cons_succ])))
    refine WQ_nil ?_
    intro w1 hb1
    replace K3 := Lib.hid (K3.out.to hb1)
    replace K2 := Lib.hid (K2.out.to hb1)
    replace HRD := Lib.hid (HRD.out.to hb1)
    replace HB := Lib.hid (bThen HB.out hb1)
    clear hb1 HC
    rw [← HE.out]
    obtain ⟨hs2, k2, f2⟩ := K2.out
    obtain ⟨hs3, k3, -⟩ := K3.out
    go_wp2_with fail
    have F := ((((K2.out.set 0 (.slice a n cap)).set 1 (.int .i64 pump)).set 2 (.int .i64 on)).set 3 (.int .i64 off')).set 4 (.slice al n cl)
    have F0 := F.2.1 0
    have F1 := F.2.1 1
    have F2 := F.2.1 2
    have F3 := F.2.1 3
    have F4 := F.2.1 4
    clear F k2 k3 f2
    have hne : ∀ b off, al = some ⟨b, off, none⟩ → b ≠ w.heap.size + 1 + 1 := fun b off e => by have := HFR.out _ e; dsimp only at this; omega
    refine bodyPost_ret (v := .tuple #[.agg #[.slice a n cap, .int .i64 pump, .int .i64 on, .int .i64 off', .slice al n cl], .int .i64 er]) ?_ rfl (HP.out _ _ _ ⟨al, cl, rfl, hcl, ?_, ?_, ?_⟩)
    · simp [results, Tryz.results106, go_sem, F0, F1, F2, F3, F4]
    · exact ((((HRD.out.other ⟨w.heap.size + 1 + 1, 0, none⟩ _ hne).other ⟨w.heap.size + 1 + 1, 1, none⟩ _ hne).other ⟨w.heap.size + 1 + 1, 2, none⟩ _ hne).other ⟨w.heap.size + 1 + 1, 3, none⟩ _ hne).other ⟨w.heap.size + 1 + 1, 4, none⟩ _ hne
    · exact ((((HB.out.setCell (p := ⟨w.heap.size + 1 + 1, 0, none⟩) (by simp; omega) _).setCell (p := ⟨w.heap.size + 1 + 1, 1, none⟩) (by simp; omega) _).setCell (p := ⟨w.heap.size + 1 + 1, 2, none⟩) (by simp; omega) _).setCell (p := ⟨w.heap.size + 1 + 1, 3, none⟩) (by simp; omega) _).setCell (p := ⟨w.heap.size + 1 + 1, 4, none⟩) (by simp; omega) _
    · intro q hq; have := HFR.out q hq; omega
  · have hc' : (ch == 0) = false := by rw [beq_eq_false_iff_ne]; exact hc
    have hE : er = ch := by have := HE.out; rw [if_neg hc] at this; exact this
    subst hE
    clear HC HE hc
    go_enter Tryz.func106, Tryz.ntmps106
    go_wp2_with fail
    refine (HO.out _ (bAlloc (bAlloc (bAlloc (bSelf w) _) _) _)).mono ?_
    intro e w1 hpost
    obtain ⟨al, cl, rfl, hcl, hrd, hb, hfr⟩ := HQ.out _ _ _ hpost
    have K2 : Hid (Blk w1 (w.heap.size + 1 + 1) #[.slice none 0 0, .int .i64 0, .int .i64 0, .int .i64 0, .slice none 0 0]) := Lib.hid ((Blk.newAt _ _ _ (by simp)).to hb)
    have HB := Lib.hid (bThen (bAlloc (bAlloc (bAlloc (bSelf w) _) _) _) hb)
    have HRD := Lib.hid hrd
    have hfr : ∀ q, al = some q → w.heap.size + 3 ≤ q.block := fun q hq => by have := hfr q hq; simp at this; omega
    have HFR := Lib.hid hfr
    clear hb hrd hpost hfr HO HQ
    obtain ⟨hs2, k2, f2⟩ := K2.out
    go_wp2_with fail
    have F := ((((((K2.out.set 0 (.slice a n cap)).set 1 (.int .i64 pump)).set 2 (.int .i64 on)).set 3 (.int .i64 off')).set 4 (.slice al n cl)).alloc (.cells #[.slice a n cap, .int .i64 pump, .int .i64 on, .int .i64 off', .slice al n cl] 170))
    have F0 := F.2.1 0
    have F1 := F.2.1 1
    have F2 := F.2.1 2
    have F3 := F.2.1 3
    have F4 := F.2.1 4
    clear F k2 f2
    have hne : ∀ b off, al = some ⟨b, off, none⟩ → b ≠ w.heap.size + 1 + 1 := fun b off e => by have := HFR.out _ e; dsimp only at this; omega
    refine bodyPost_ret (v := .tuple #[.agg #[.slice a n cap, .int .i64 pump, .int .i64 on, .int .i64 off', .slice al n cl], .int .i64 er]) ?_ rfl (HP.out _ _ _ ⟨al, cl, rfl, hcl, ?_, ?_, ?_⟩)
    · simp [results, Tryz.results106, go_sem, F0, F1, F2, F3, F4]
    · exact (((((HRD.out.other ⟨w.heap.size + 1 + 1, 0, none⟩ _ hne).other ⟨w.heap.size + 1 + 1, 1, none⟩ _ hne).other ⟨w.heap.size + 1 + 1, 2, none⟩ _ hne).other ⟨w.heap.size + 1 + 1, 3, none⟩ _ hne).other ⟨w.heap.size + 1 + 1, 4, none⟩ _ hne).alloc _
    · exact bAlloc (((((HB.out.setCell (p := ⟨w.heap.size + 1 + 1, 0, none⟩) (by simp; omega) _).setCell (p := ⟨w.heap.size + 1 + 1, 1, none⟩) (by simp; omega) _).setCell (p := ⟨w.heap.size + 1 + 1, 2, none⟩) (by simp; omega) _).setCell (p := ⟨w.heap.size + 1 + 1, 3, none⟩) (by simp; omega) _).setCell (p := ⟨w.heap.size + 1 + 1, 4, none⟩) (by simp; omega) _) _
    · intro q hq; have := HFR.out q hq; omega

end Go.Proofs.YtjfedpblkejmkaaGreat

/-
  Plain laws of valves: rounding does not look at how a quotient is written; wider drops have no narrower flows; the drop for a flow.
-/
namespace Go.Proofs.YtjfedpblkejmkaaGreat
open Go.RowKit

/-- A valve: drops, with the least and the most flow. -/
structure VlvOk (v : List (Int × Int × Int)) : Prop where
  lo : LinOk (v.map fun x => (x.1, x.2.1))
  hi : LinOk (v.map fun x => (x.1, x.2.2))
def lowV (v : List (Int × Int × Int)) : List (Int × Int) := v.map fun x => (x.1, x.2.1)
def uppV (v : List (Int × Int × Int)) : List (Int × Int) := v.map fun x => (x.1, x.2.2)
/-- The flows for a range of drops. -/
def flwA (v : List (Int × Int × Int)) (a b : Int) : Int × Int := (flQ (prQ (lowV v) a), clQ (prQ (uppV v) b))
/-- The valve of the examples. -/
def exV : List (Int × Int × Int) := [(0, 0, 0), (10, 8, 10), (30, 14, 20)]
end Go.Proofs.YtjfedpblkejmkaaGreat

/-
  Next, PressureAt, VolumeFor.
-/
namespace Go.Proofs.YtjfedpblkejmkaaGreat
open Go.RowKit
attribute [local go_sem] Oper.semAt_some

theorem Blk.c1 {w : World} {b : Nat} {cs : Array Value} (h : Blk w b cs) : ∀ (o1 : Obj) (o : Nat), (w.alloc o1).cell? ⟨b, o, none⟩ = cs[o]? := fun o1 o => (h.alloc o1).2.1 o
theorem Blk.c2 {w : World} {b : Nat} {cs : Array Value} (h : Blk w b cs) : ∀ (o1 o2 : Obj) (o : Nat), ((w.alloc o1).alloc o2).cell? ⟨b, o, none⟩ = cs[o]? := fun o1 o2 o => ((h.alloc o1).alloc o2).2.1 o
theorem Blk.f1 {w : World} {b : Nat} {cs : Array Value} (h : Blk w b cs) : ∀ (o1 : Obj) (o : Nat), (w.alloc o1).frozen? ⟨b, o, none⟩ = false := fun o1 o => (h.alloc o1).2.2 o
/-- What openState hands over, with the plant's parts named. -/
theorem OpsPost.ex {p : Plt} {a : Option Addr} {cap : Nat} {er : Int} {w : World} {e : Ending} {w' : World} (h : OpsPost p a cap er w e w') : ∃ al cl, e = .returned (.tuple #[.agg (plL p a cap al cl), .int .i64 er]) ∧ p.pts.length ≤ cl ∧ Reads w' al (p.pts.length * 2) (fracs p.pts) ∧ Below w.heap.size w w' ∧ ∀ q, al = some q → w.heap.size ≤ q.block := h

end Go.Proofs.YtjfedpblkejmkaaGreat

