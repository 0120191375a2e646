/-
  Texts of this claim, in their build order: Lib13 R2 P4 S2.
-/
import Derived.Test.YtjieojkfpoiabaaHalves40
import Derived.Test.YtjieojkfpoiabaaHalves6
import Derived.Test.YtjieojkfpoiabaaHalves41
import Derived.Test.YtjieojkfpoiabaaHalves29

/-
  Two rows of whole numbers that grow by turns, in the memory beyond a box that holds them.
-/
namespace Go.Proofs.Ytjieojkfpoiabaa
open Go.RowKit

/-- Two rows beyond block B, apart from each other and from some cells laid for them. -/
structure RS (B : Nat) (W : World) (u1 u2 : Value) (m1 m2 : Nat) (xs1 xs2 : List Value) (S : List (Nat × Int)) : Prop where
  lt : B < W.heap.size
  r1 : W.ownsRow (B + 1) 3 1 u1 m1 xs1
  r2 : W.ownsRow (B + 1) 3 1 u2 m2 xs2
  ap : ∀ g, u1.ownBlock = some g → u2.ownBlock ≠ some g
  tm : ∀ p ∈ S, Blk W p.1 #[.int .i64 p.2] ∧ u1.ownBlock ≠ some p.1 ∧ u2.ownBlock ≠ some p.1
section
variable {B : Nat} {W : World} {u1 u2 : Value} {m1 m2 : Nat} {xs1 xs2 : List Value} {S : List (Nat × Int)}
theorem RS.to (h : RS B W u1 u2 m1 m2 xs1 xs2 S) {W' : World} (hb : Below W.heap.size W W') : RS B W' u1 u2 m1 m2 xs1 xs2 S :=
  ⟨Nat.lt_of_lt_of_le h.lt hb.size, owns_to h.r1 hb, owns_to h.r2 hb, h.ap, fun p hp => ⟨(h.tm p hp).1.to hb, (h.tm p hp).2⟩⟩
theorem RS.alloc (h : RS B W u1 u2 m1 m2 xs1 xs2 S) (x : Int) (T : TypeId) : RS B (W.alloc (.cells #[.int .i64 x] T)) u1 u2 m1 m2 xs1 xs2 ((W.heap.size, x) :: S) := by
  have hb : Below W.heap.size W (W.alloc (.cells #[.int .i64 x] T)) := bAlloc (bSelf W) _
  have h' := h.to hb
  refine ⟨h'.lt, h'.r1, h'.r2, h.ap, fun p hp => ?_⟩
  rcases List.mem_cons.1 hp with rfl | hp
  · exact ⟨Blk.new _ _ _, fun e => by have := (h.r1.lt _ e).2; dsimp only at this; omega, fun e => by have := (h.r2.lt _ e).2; dsimp only at this; omega⟩
  · exact h'.tm p hp
theorem RS.belowA (h : RS B W u1 u2 m1 m2 xs1 xs2 S) (o : Obj) : Below (B + 1) W (W.alloc o) := (Below.refl _ _).alloc h.lt o
theorem blk_grown {W W' : World} {b : Nat} {cs : Array Value} {row : Option Nat} (h : Blk W b cs) (hg : W.grownBy W' row) (hne : row ≠ some b) : Blk W' b cs := by
  have hb := hg.block b h.1 (fun e => hne e.symm)
  exact ⟨Nat.lt_of_lt_of_le h.1 hg.size, fun o => (World.cell?_of_block (a := ⟨b, o, none⟩) hb).trans (h.2.1 o), fun o => (World.frozen?_of_block (a := ⟨b, o, none⟩) hb).trans (h.2.2 o)⟩
theorem RS.app1 (h : RS B W u1 u2 m1 m2 xs1 xs2 S) {W' : World} {v' : Value} {m' : Nat} {ys : List Value} (hown : W'.ownsRow (B + 1) 3 1 v' m' ys) (hg : W.grownBy W' u1.ownBlock) (hw : v'.ownBlock = u1.ownBlock ∨ v'.ownBlock = some W.heap.size) :
    RS B W' v' u2 m' m2 ys xs2 S ∧ Below (B + 1) W W' := by
  refine ⟨⟨Nat.lt_of_lt_of_le h.lt hg.size, hown, h.r2.kept hg ?_, fun g e e2 => ?_, fun p hp => ?_⟩, (Below.refl _ _).grown hg h.lt (fun k e => (h.r1.lt k e).1)⟩
  · cases hv : u2.ownBlock with
    | none => exact .inl rfl
    | some g => exact .inr (fun e => h.ap g e.symm hv)
  · rcases hw with hw | hw
    · exact h.ap g (hw ▸ e) e2
    · have := (h.r2.lt g e2).2
      rw [hw] at e
      cases e
      omega
  · obtain ⟨h1, h2, h3⟩ := h.tm p hp
    refine ⟨blk_grown h1 hg h2, fun e => ?_, h3⟩
    rcases hw with hw | hw
    · exact h2 (hw ▸ e)
    · have := h1.1
      rw [hw] at e
      have e := Option.some.inj e
      omega
theorem RS.swap (h : RS B W u1 u2 m1 m2 xs1 xs2 S) : RS B W u2 u1 m2 m1 xs2 xs1 S :=
  ⟨h.lt, h.r2, h.r1, fun g e e2 => h.ap g e2 e, fun p hp => ⟨(h.tm p hp).1, (h.tm p hp).2.2, (h.tm p hp).2.1⟩⟩
theorem RS.app2 (h : RS B W u1 u2 m1 m2 xs1 xs2 S) {W' : World} {v' : Value} {m' : Nat} {ys : List Value} (hown : W'.ownsRow (B + 1) 3 1 v' m' ys) (hg : W.grownBy W' u2.ownBlock) (hw : v'.ownBlock = u2.ownBlock ∨ v'.ownBlock = some W.heap.size) :
    RS B W' u1 v' m1 m' xs1 ys S ∧ Below (B + 1) W W' := by
  obtain ⟨h1, h2⟩ := h.swap.app1 hown hg hw
  exact ⟨h1.swap, h2⟩
theorem RS.set (h : RS B W u1 u2 m1 m2 xs1 xs2 S) (i : Nat) (v : Value) : RS B (W.setCell ⟨B, i, none⟩ v) u1 u2 m1 m2 xs1 xs2 [] :=
  ⟨by simpa [World.setCell] using h.lt, ownsRow_setCell_below h.r1 (Nat.lt_succ_self B) v, ownsRow_setCell_below h.r2 (Nat.lt_succ_self B) v, h.ap, fun p hp => by cases hp⟩
end
theorem gi_rev {l : List Int} {k : Nat} (h : k < l.length) : gi l.reverse k = gi l (l.length - 1 - k) := by
  rw [gi_lt (by rw [List.length_reverse]; exact h), gi_lt (by omega), List.getElem_reverse]
theorem chkC_of {ks fs : List Int} (h : ChOk ks fs) (hn : 0 < ks.length) : (chkC ks fs).2 = 0 := by
  have hl := h.len
  have hf := h.few
  have e0 : chE0 ks fs = 0 := by
    unfold chE0
    rw [decide_eq_true (show (0 : Int) < ks.length by omega), show ((fs.length : Int) == ks.length) = true by rw [beq_iff_eq]; omega, decide_eq_true (show (ks.length : Int) ≤ 6 by omega)]
    rfl
  unfold chkC
  rw [if_pos e0, eachR_all ks.length 0 (fun j _ hj => ?_)]
  unfold nodE
  have h1 := h.k1 j (by omega)
  have h2 := h.f1 j (by omega)
  rw [decide_eq_true h1.1, decide_eq_true h1.2, decide_eq_true h2.1, decide_eq_true h2.2]
  rfl

end Go.Proofs.Ytjieojkfpoiabaa

/-
  Two halves, plain: one displacement set in a copy of the halves.
-/
namespace Go.Proofs.Ytjieojkfpoiabaa
open Go.RowKit

/-- append, guarded, in a walk. -/
theorem wpList_appG {P : Program} {w : World} {ops : Array Oper} {rest : List Oper} {o : Oper} {b : Act} {Q : Exit → Act → World → Prop} (base : Nat) {t e : TypeId} {z : Value} {size bytes : Nat} (rt : RowTy P t e size bytes z)
    (hg : Region.wanted o (yielded ops b.tmps) = true) (s x : Operand) (hop : o.op = Op.call { callee := Callee.builtin Builtin.append, args := #[s, x], argTypes := #[t, t] })
    (v : Value) (n : Nat) (xs : List Value) (hs : b.eval s = v) (hown : w.ownsRow base e size v n xs) (a : Addr) (m c : Nat) (news : List Value) (hx : b.eval x = .slice (some a) m c)
    (hl : news.length = m * size) (hnews : ∀ j u, news[j]? = some u → w.cell? (a.add j) = some u) (h1 : ∀ u ∈ news, u.oneCell' = true)
    (h63 : n + m ≤ maxLen) (hbytes : (n + m) * bytes ≤ 140737488355328) (hbase : base ≤ w.heap.size)
    (hK : ∀ v' w', w'.ownsRow base e size v' (n + m) (xs ++ news) → w.grownBy w' v.ownBlock → wpList P ops Q rest (b.put o.dst v') w') :
    wpList P ops Q (o :: rest) b w := by
  refine wpList_step fun K hK' => ?_
  rw [if_pos hg]
  obtain ⟨v', w', hr, r1, r2, r3, r4⟩ := append_where (P := P) base o.type rt v n xs hown a m c news hl hnews h1 h63 hbytes hbase
  unfold Oper.wp execOp
  simp only [hop, resolve, invoke, builtin, Sem.run_bind, Sem.run_pure, Result.andThen_ok, List.map_toArray, List.map_cons, List.map_nil, hs, hx, hr]
  exact hK' _ _ (hK v' w' r1 r2)

theorem i64_sm {p : Int × Int} (h : SmF p) : I64 p := by
  obtain ⟨h1, h2, h3, h4⟩ := h
  exact ⟨by omega, by omega, by omega, by omega⟩
theorem sm_left {ls us l : Fl} (h : ls ++ us = l) (hs : ∀ j, j < l.length → SmF (fg l j)) (k : Nat) (hk : k < ls.length) : SmF (fg ls k) := by
  rw [← fg_app1 (m := us) hk, h]
  exact hs k (by rw [← h, List.length_append]; omega)
theorem sm_right {ls us l : Fl} (h : ls ++ us = l) (hs : ∀ j, j < l.length → SmF (fg l j)) (k : Nat) (hk : k < us.length) : SmF (fg us k) := by
  have := fg_app2 (l := ls) (m := us) (k := ls.length + k) (by omega)
  rw [show ls.length + k - ls.length = k by omega, h] at this
  rw [← this]
  exact hs _ (by rw [← h, List.length_append]; omega)
theorem i64_left {ls us l : Fl} (h : ls ++ us = l) (hs : ∀ j, j < l.length → I64 (fg l j)) (k : Nat) (hk : k < ls.length) : I64 (fg ls k) := by
  rw [← fg_app1 (m := us) hk, h]
  exact hs k (by rw [← h, List.length_append]; omega)
theorem i64_right {ls us l : Fl} (h : ls ++ us = l) (hs : ∀ j, j < l.length → I64 (fg l j)) (k : Nat) (hk : k < us.length) : I64 (fg us k) := by
  have := fg_app2 (l := ls) (m := us) (k := ls.length + k) (by omega)
  rw [show ls.length + k - ls.length = k by omega, h] at this
  rw [← this]
  exact hs _ (by rw [← h, List.length_append]; omega)
theorem i64_set {l : Fl} (hs : ∀ j, j < l.length → SmF (fg l j)) {a : Nat} (ha : a < l.length) {p : Int × Int} (hp : I64 p) (j : Nat) (hj : j < (l.set a p).length) : I64 (fg (l.set a p) j) := by
  rw [List.length_set] at hj
  rw [fg_set ha]
  split
  · exact hp
  · exact i64_sm (hs j hj)
theorem set_left {ls us l : Fl} (h : ls ++ us = l) {a : Nat} (ha : a < ls.length) (p : Int × Int) : ls.set a p ++ us = l.set a p := by
  rw [← h, List.set_append_left a p ha]
theorem set_right {ls us l : Fl} (h : ls ++ us = l) {a c : Nat} (ha : ls.length + c = a) (p : Int × Int) : ls ++ us.set c p = l.set a p := by
  rw [← h, List.set_append_right a p (by omega), show a - ls.length = c by omega]
/-- What the wrong halves are. -/
structure WrongI (ks fs : List Int) (F : Int) (nd m : Nat) (ls us : Fl) : Prop where
  l1 : ls.length = nd + 1
  l2 : us.length = m
  i1 : ∀ k, k < ls.length → I64 (fg ls k)
  i2 : ∀ k, k < us.length → I64 (fg us k)
  no : (chH ks fs ls us F nd).2 = 19 ∨ (chH ks fs ls us F nd).2 = 2
theorem WrongI.of {ks fs : List Int} {F : Int} {nd m : Nat} {ls us l : Fl} {L : Int} (hv : Mvd ks fs l L) (hF : (fs.drop (nd + 1)).sum = F) (hnd : ndE ks fs nd = 0) (hs : ∀ j, j < l.length → SmF (fg l j)) {a : Nat} (ha : a < l.length) {s : Int} (h1 : s = 1 ∨ s = -1)
    (e : ls ++ us = l.set a ((fg l a).1 + s * (fg l a).2, (fg l a).2)) (l1 : ls.length = nd + 1) (l2 : us.length = m) : WrongI ks fs F nd m ls us := by
  obtain ⟨n0, n1, d0, d1⟩ := hs a ha
  have hp : I64 ((fg l a).1 + s * (fg l a).2, (fg l a).2) := by rcases h1 with rfl | rfl <;> exact ⟨by dsimp only; omega, by dsimp only; omega, by dsimp only; omega, by dsimp only; omega⟩
  have hi := i64_set hs ha hp
  refine ⟨l1, l2, i64_left e hi, i64_right e hi, ?_⟩
  rw [← hF]
  exact wrong_no hv hnd h1 (by rw [← hv.len]; exact ha) l1 (by rw [e, List.length_set]) (fun j hj => by rw [e, fg_set ha, if_neg hj]) (by rw [e, fg_set ha, if_pos rfl])
theorem lowest_same {n d : Int} (s : Int) (h : Int.gcd n d = 1) : fr (n + s * d) d = (n + s * d, d) := fr_id (by rw [Int.mul_comm, Int.gcd_add_mul_left_left]; exact h)
theorem low_gcd {n d : Int} (h : lowB n d = true) : Int.gcd n d = 1 := by
  unfold lowB at h
  simp only [Bool.and_eq_true, beq_iff_eq] at h
  omega

end Go.Proofs.Ytjieojkfpoiabaa

/-
  Two halves: the upper half alone, and doubled forces.
-/
namespace Go.Proofs.Ytjieojkfpoiabaa
open Go.RowKit

theorem ok_drop {ks fs : List Int} (h : ChOk ks fs) (m : Nat) : ChOk (ks.drop m) (fs.drop m) :=
  ⟨by rw [List.length_drop, List.length_drop, h.len], by rw [List.length_drop]; have := h.few; omega,
    fun k hk => by rw [List.length_drop] at hk; rw [gi_drop_at]; exact h.k1 _ (by omega),
    fun k hk => by rw [List.length_drop] at hk; rw [gi_drop_at]; exact h.f1 _ (by omega)⟩
theorem refN_drop {ks fs : List Int} {L : Int} (h : ChOk ks fs) (m : Nat) : ∀ j, m + j ≤ ks.length → refN (ks.drop m) (fs.drop m) L j = refN ks fs L (m + j) - refN ks fs L m
  | 0, _ => by simp [refN]
  | j + 1, hj => by
    have ih := refN_drop h m j (by omega) (L := L)
    have hl := h.len
    have e1 : refN (ks.drop m) (fs.drop m) L (j + 1) = refN (ks.drop m) (fs.drop m) L j + sprF (fs.drop m) j * L.tdiv (gi (ks.drop m) j) := rfl
    have e2 : refN ks fs L (m + (j + 1)) = refN ks fs L (m + j) + sprF fs (m + j) * L.tdiv (gi ks (m + j)) := rfl
    rw [e1, e2, ih, gi_drop_at, sprF_sum (by rw [List.length_drop]; omega), sprF_sum (by omega), List.drop_drop]
    omega
theorem Fq.refr {p : Int × Int} {N D : Int} (h : Fq p N D) : Fq (fr p.1 p.2) N D := by
  obtain ⟨a0, a1, a2⟩ := h
  have h1 := fr_mul (n := p.1) a0
  have h2 := fr_pos (n := p.1) a0
  refine ⟨h2, a1, ?_⟩
  refine Int.eq_of_mul_eq_mul_left (a := p.2) (by omega) ?_
  generalize fr p.1 p.2 = f at *
  grind
/-- The upper half alone, on the ground, moves by what it moves beyond the node. -/
theorem upper_law {ks fs : List Int} {l v : Fl} {L : Int} (h : Mvd ks fs l L) {nd j : Nat} (hv : mvO (ks.drop (nd + 1)) (fs.drop (nd + 1)) = some v) (hj : nd + 1 + j < ks.length) :
    cmpQ (rAdd (fr (fg v j).1 (fg v j).2) (fr (fg l nd).1 (fg l nd).2)) (fr (fg l (nd + 1 + j)).1 (fg l (nd + 1 + j)).2) = 0 := by
  have hok := ok_drop h.ok (nd + 1)
  have hd : ∀ k, k < (ks.drop (nd + 1)).length → gi (ks.drop (nd + 1)) k ∣ L := fun k hk => by
    rw [List.length_drop] at hk; rw [gi_drop_at]; exact h.div _ (by omega)
  have e := mvO_any hok h.L0 hd
  rw [hv] at e
  have hg := (refO_get e.symm j (by rw [List.length_drop]; omega)).1
  rw [Nat.zero_add, refN_drop h.ok (nd + 1) (j + 1) (by omega)] at hg
  have f1 : Fq (fg v j) (refN ks fs L (nd + 1 + (j + 1)) - refN ks fs L (nd + 1)) L := by rw [hg]; exact Fq.of h.L0
  have f2 := h.fq (k := nd) (by omega)
  have f3 := h.fq (k := nd + 1 + j) hj
  have hc := (f1.refr.add f2.refr).cmp f3.refr
  unfold cmpQ
  rw [Int.sign_eq_zero_iff_zero]
  have : ((rAdd (fr (fg v j).1 (fg v j).2) (fr (fg l nd).1 (fg l nd).2)).1 * (fr (fg l (nd + 1 + j)).1 (fg l (nd + 1 + j)).2).2 = (fr (fg l (nd + 1 + j)).1 (fg l (nd + 1 + j)).2).1 * (rAdd (fr (fg v j).1 (fg v j).2) (fr (fg l nd).1 (fg l nd).2)).2) := hc.2 (by
    rw [show nd + 1 + (j + 1) = nd + 1 + j + 1 by omega]
    generalize refN ks fs L (nd + 1 + j + 1) = A
    generalize refN ks fs L (nd + 1) = B
    grind)
  omega
theorem upTo_dbl {fs f2 : List Int} (h : ∀ k, gi f2 k = 2 * gi fs k) (n : Nat) : ∀ j, upTo f2 n j = 2 * upTo fs n j
  | 0 => rfl
  | j + 1 => by unfold upTo; rw [upTo_dbl h n j, h]; omega
theorem refN_dbl {ks fs f2 : List Int} {L : Int} (h : ∀ k, gi f2 k = 2 * gi fs k) (hl : f2.length = fs.length) : ∀ k, refN ks f2 L k = 2 * refN ks fs L k
  | 0 => rfl
  | k + 1 => by
    have ih := refN_dbl h hl k (ks := ks) (L := L)
    have e1 : refN ks f2 L (k + 1) = refN ks f2 L k + sprF f2 k * L.tdiv (gi ks k) := rfl
    have e2 : refN ks fs L (k + 1) = refN ks fs L k + sprF fs k * L.tdiv (gi ks k) := rfl
    have e3 : sprF f2 k = 2 * sprF fs k := by unfold sprF; rw [h, hl, upTo_dbl h]; omega
    rw [e1, e2, ih, e3, Int.mul_assoc]
    omega
/-- With doubled forces all displacements are doubled. -/
theorem dbl_law {ks fs f2 : List Int} {l w : Fl} {L : Int} (h : Mvd ks fs l L) (h2 : ∀ k, gi f2 k = 2 * gi fs k) (hl : f2.length = fs.length) (hf : ∀ k, k < f2.length → -1000 ≤ gi f2 k ∧ gi f2 k ≤ 1000) (hw : mvO ks f2 = some w) :
    w.length = l.length ∧ ∀ k, k < ks.length → fg w k = fr (2 * (fg l k).1) (fg l k).2 := by
  have hok : ChOk ks f2 := ⟨hl.trans h.ok.len, h.ok.few, h.ok.k1, fun k hk => hf k (by rw [hl, h.ok.len]; exact hk)⟩
  have e := mvO_any hok h.L0 h.div
  rw [hw] at e
  refine ⟨(movO_len hw).trans h.len.symm, fun k hk => ?_⟩
  have hg := (refO_get e.symm k hk).1
  rw [Nat.zero_add, refN_dbl h2 hl] at hg
  rw [hg]
  have f := h.fq hk
  refine fr_eq h.L0 f.d0 ?_
  have := f.eq
  generalize fg l k = p at *
  generalize refN ks fs L (k + 1) = N at *
  grind

end Go.Proofs.Ytjieojkfpoiabaa

/-
  What the end of HybridHalves wants: a fraction in few digits turned into a ratio, two added, compared; the forces doubled one by one; slices with room.
-/
namespace Go.Proofs.Ytjieojkfpoiabaa
open Go.RowKit

theorem From_sm (p : Int × Int) (w : World) (h : SmF p) : Calls Try.prog 69 #[.agg #[.int .i64 p.1, .int .i64 p.2]] w fun e w1 => RPost [] (fr p.1 p.2) w e w1 := by
  obtain ⟨h1, h2, h3, h4⟩ := h
  exact RatioFrom_any p.1 p.2 w (by omega) (by omega) (by omega) (by omega)
theorem dg_sm {p : Int × Int} (h : SmF p) : (dg (fr p.1 p.2).1).length ≤ 3 ∧ (dg (fr p.1 p.2).2).length ≤ 3 ∧ 0 < (fr p.1 p.2).2 := by
  obtain ⟨g1, g2, g3⟩ := fr_sm h
  exact ⟨dg_small 3 (by omega), dg_small 3 (by omega), g3⟩
theorem Add_sm (p q : Int × Int) (a1 a2 b1 b2 : Option Addr) (v1 v2 : Value) (w : World) (hp : SmF p) (hq : SmF q) (h1 : RR w a1 a2 v1 (fr p.1 p.2)) (h2 : RR w b1 b2 v2 (fr q.1 q.2)) :
    Calls Try.prog 68 #[v1, v2] w fun e w1 => RPost [] (rAdd (fr p.1 p.2) (fr q.1 q.2)) w e w1 := by
  obtain ⟨x1, x2, x3⟩ := dg_sm hp
  obtain ⟨y1, y2, y3⟩ := dg_sm hq
  exact RatioAdd_any _ _ a1 a2 b1 b2 v1 v2 w h1 h2 (by omega) (by omega) (by omega) (by omega) x3 y3
theorem Cmp_zero (p q r : Int × Int) (a1 a2 b1 b2 : Option Addr) (v1 v2 : Value) (w : World) (hp : SmF p) (hq : SmF q) (hr : SmF r) (h1 : RR w a1 a2 v1 (rAdd (fr p.1 p.2) (fr q.1 q.2))) (h2 : RR w b1 b2 v2 (fr r.1 r.2))
    (h : cmpQ (rAdd (fr p.1 p.2) (fr q.1 q.2)) (fr r.1 r.2) = 0) : Calls Try.prog 67 #[v1, v2] w fun e w' => e = .returned (.int .i64 0) ∧ Below w.heap.size w w' := by
  obtain ⟨x1, x2, -⟩ := dg_sm hp
  obtain ⟨y1, y2, -⟩ := dg_sm hq
  obtain ⟨z1, z2, -⟩ := dg_sm hr
  have a1' : (dg ((fr p.1 p.2).1 * (fr q.1 q.2).2)).length ≤ 6 := Nat.le_trans dg_mul (by omega)
  have a2' : (dg ((fr q.1 q.2).1 * (fr p.1 p.2).2)).length ≤ 6 := Nat.le_trans dg_mul (by omega)
  have a3' : (dg ((fr p.1 p.2).2 * (fr q.1 q.2).2)).length ≤ 6 := Nat.le_trans dg_mul (by omega)
  have l1 : (dg (rAdd (fr p.1 p.2) (fr q.1 q.2)).1).length ≤ 7 := dg_fr1 (dg_add a1' a2')
  have l2 : (dg (rAdd (fr p.1 p.2) (fr q.1 q.2)).2).length ≤ 6 := dg_fr2 a3'
  have hc := RatioCmp_any _ _ a1 a2 b1 b2 v1 v2 w h1 h2 (by omega) (by omega) (by omega) (by omega)
  unfold cmpQ at h
  rw [h] at hc
  exact hc

/-- The forces of which the first k are doubled. -/
def dblL (fs : List Int) : Nat → List Int
  | 0 => fs
  | k + 1 => (dblL fs k).set k (2 * gi fs k)
theorem dblL_len (fs : List Int) : ∀ k, (dblL fs k).length = fs.length
  | 0 => rfl
  | k + 1 => by unfold dblL; rw [List.length_set]; exact dblL_len fs k
theorem dblL_gi (fs : List Int) : ∀ k, k ≤ fs.length → ∀ j, gi (dblL fs k) j = if j < k then 2 * gi fs j else gi fs j
  | 0, _, j => by simp [dblL]
  | k + 1, h, j => by
    unfold dblL
    rw [gi_set, dblL_gi fs k (by omega) j, dblL_len]
    by_cases e : k = j
    · subst e; rw [if_pos ⟨rfl, by omega⟩, if_pos (by omega)]
    · rw [if_neg (fun h => e h.1)]
      by_cases e2 : j < k
      · rw [if_pos e2, if_pos (by omega)]
      · rw [if_neg e2, if_neg (by omega)]
theorem dblL_all (fs : List Int) (j : Nat) : gi (dblL fs fs.length) j = 2 * gi fs j := by
  rw [dblL_gi fs _ (Nat.le_refl _)]
  split
  · rfl
  · rename_i h
    unfold gi
    rw [List.getD_eq_getElem?_getD, List.getElem?_eq_none (by omega)]
    rfl
theorem ok_dbl {ks fs : List Int} (h : ChOk ks fs) (hf : ∀ j, j < fs.length → -1000 ≤ 2 * gi fs j ∧ 2 * gi fs j ≤ 1000) : ChOk ks (dblL fs fs.length) :=
  ⟨by rw [dblL_len]; exact h.len, h.few, h.k1, fun k hk => by rw [dblL_all]; exact hf k (by rw [h.len]; exact hk)⟩
/-- The loop that doubles the forces, one by one: the row of the copy's forces is g, the copy's box B. -/
structure DblI (ks fs : List Int) (n g B : Nat) (y1 : Option Addr) (e1 e2 : Nat) (wV : World) (k : Nat) (wr : World) : Prop where
  row : ∃ cur, Blk wr g cur ∧ ∀ i, i < fs.length → cur[i]? = some (ints (dblL fs k) i)
  kb : Blk wr B (chV y1 n e1 (some ⟨g, 0, none⟩) n e2)
  g1 : Reads wr y1 n (ints ks)
  be : Below wV.heap.size wV wr
theorem DblI.to {ks fs : List Int} {n g B : Nat} {y1 : Option Addr} {e1 e2 : Nat} {wV : World} {k : Nat} {wr W : World} (h : DblI ks fs n g B y1 e1 e2 wV k wr) (hb : Below wr.heap.size wr W) : DblI ks fs n g B y1 e1 e2 wV k W := by
  obtain ⟨cur, h1, h2⟩ := h.row
  exact ⟨⟨cur, h1.to hb, h2⟩, h.kb.to hb, h.g1.to hb, bThen h.be hb⟩
theorem DblI.cell {ks fs : List Int} {n g B : Nat} {y1 : Option Addr} {e1 e2 : Nat} {wV : World} {k : Nat} {wr : World} (h : DblI ks fs n g B y1 e1 e2 wV k wr) (hk : k ≤ fs.length) {j : Nat} (hj : j < fs.length) :
    g < wr.heap.size ∧ wr.cell? ⟨g, j, none⟩ = some (.int .i64 (if j < k then 2 * gi fs j else gi fs j)) := by
  obtain ⟨cur, h1, h2⟩ := h.row
  refine ⟨h1.1, ?_⟩
  rw [h1.2.1, h2 j hj]
  unfold ints
  rw [dblL_gi fs k hk]
theorem DblI.frz {ks fs : List Int} {n g B : Nat} {y1 : Option Addr} {e1 e2 : Nat} {wV : World} {k : Nat} {wr : World} (h : DblI ks fs n g B y1 e1 e2 wV k wr) : ∃ cur, Blk wr g cur := by
  obtain ⟨cur, h1, -⟩ := h.row
  exact ⟨cur, h1⟩
theorem DblI.next {ks fs : List Int} {n g B : Nat} {y1 : Option Addr} {e1 e2 : Nat} {wV : World} {k : Nat} {wr : World} (h : DblI ks fs n g B y1 e1 e2 wV k wr) (hk : k < fs.length) (hV : wV.heap.size ≤ g) (hgB : g ≠ B) (hy : ∀ b off, y1 = some ⟨b, off, none⟩ → b ≠ g) :
    DblI ks fs n g B y1 e1 e2 wV (k + 1) (wr.setCell ⟨g, k, none⟩ (.int .i64 (2 * gi fs k))) := by
  obtain ⟨cur, h1, h2⟩ := h.row
  have h3 := row_set (l := dblL fs k) (cur := cur) (by rw [dblL_len]; exact h2) (k := k) (by rw [dblL_len]; exact hk) (2 * gi fs k)
  rw [dblL_len] at h3
  exact ⟨⟨_, h1.set k _, h3⟩, h.kb.other (p := ⟨g, k, none⟩) hgB _, h.g1.other ⟨g, k, none⟩ _ hy, h.be.setCell (p := ⟨g, k, none⟩) hV _⟩

end Go.Proofs.Ytjieojkfpoiabaa

