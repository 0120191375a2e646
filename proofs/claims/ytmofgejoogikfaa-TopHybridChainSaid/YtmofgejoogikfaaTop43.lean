/-
  Texts of this claim, in their build order: S2 R1 R2 N3.
-/
import Derived.Test.YtmofgejoogikfaaTop38
import Derived.Test.YtmofgejoogikfaaTop39
import Derived.Test.YtmofgejoogikfaaTop25
import Derived.Test.YtmofgejoogikfaaTop40
import Derived.Test.YtmofgejoogikfaaTop41
import Derived.Test.YtmofgejoogikfaaTop18
import Derived.Test.YtmofgejoogikfaaTop10

/-
  What the end of HybridHalves wants: a fraction in few digits turned into a ratio, two added, compared; the forces doubled one by one; slices with room.
-/
namespace Go.Proofs.Ytmofgejoogikfaa
open Go.RowKit

theorem From_sm (p : Int × Int) (w : World) (h : SmF p) : Calls Try.prog 17 #[.agg #[.int .i64 p.1, .int .i64 p.2]] w fun e w1 => RPost [] (fr p.1 p.2) w e w1 := by
  obtain ⟨h1, h2, h3, h4⟩ := h
  exact RatioFrom_any p.1 p.2 w (by omega) (by omega) (by omega) (by omega)
theorem dg_sm {p : Int × Int} (h : SmF p) : (dg (fr p.1 p.2).1).length ≤ 3 ∧ (dg (fr p.1 p.2).2).length ≤ 3 ∧ 0 < (fr p.1 p.2).2 := by
  obtain ⟨g1, g2, g3⟩ := fr_sm h
  exact ⟨dg_small 3 (by omega), dg_small 3 (by omega), g3⟩
theorem Add_sm (p q : Int × Int) (a1 a2 b1 b2 : Option Addr) (v1 v2 : Value) (w : World) (hp : SmF p) (hq : SmF q) (h1 : RR w a1 a2 v1 (fr p.1 p.2)) (h2 : RR w b1 b2 v2 (fr q.1 q.2)) :
    Calls Try.prog 16 #[v1, v2] w fun e w1 => RPost [] (rAdd (fr p.1 p.2) (fr q.1 q.2)) w e w1 := by
  obtain ⟨x1, x2, x3⟩ := dg_sm hp
  obtain ⟨y1, y2, y3⟩ := dg_sm hq
  exact RatioAdd_any _ _ a1 a2 b1 b2 v1 v2 w h1 h2 (by omega) (by omega) (by omega) (by omega) x3 y3
/-- The forces of which the first k are doubled. -/
def dblL (fs : List Int) : Nat → List Int
  | 0 => fs
  | k + 1 => (dblL fs k).set k (2 * gi fs k)
theorem dblL_len (fs : List Int) : ∀ k, (dblL fs k).length = fs.length
  | 0 => rfl
  | k + 1 => by unfold dblL; rw [List.length_set]; exact dblL_len fs k
theorem dblL_gi (fs : List Int) : ∀ k, k ≤ fs.length → ∀ j, gi (dblL fs k) j = if j < k then 2 * gi fs j else gi fs j
  | 0, _, j => by simp [dblL]
  | k + 1, h, j => by
    unfold dblL
    rw [gi_set, dblL_gi fs k (by omega) j, dblL_len]
    by_cases e : k = j
    · subst e; rw [if_pos ⟨rfl, by omega⟩, if_pos (by omega)]
    · rw [if_neg (fun h => e h.1)]
      by_cases e2 : j < k
      · rw [if_pos e2, if_pos (by omega)]
      · rw [if_neg e2, if_neg (by omega)]
/-- The loop that doubles the forces, one by one: the row of the copy's forces is g, the copy's box B. -/
structure DblI (ks fs : List Int) (n g B : Nat) (y1 : Option Addr) (e1 e2 : Nat) (wV : World) (k : Nat) (wr : World) : Prop where
  row : ∃ cur, Blk wr g cur ∧ ∀ i, i < fs.length → cur[i]? = some (ints (dblL fs k) i)
  kb : Blk wr B (chV y1 n e1 (some ⟨g, 0, none⟩) n e2)
  g1 : Reads wr y1 n (ints ks)
  be : Below wV.heap.size wV wr
theorem DblI.to {ks fs : List Int} {n g B : Nat} {y1 : Option Addr} {e1 e2 : Nat} {wV : World} {k : Nat} {wr W : World} (h : DblI ks fs n g B y1 e1 e2 wV k wr) (hb : Below wr.heap.size wr W) : DblI ks fs n g B y1 e1 e2 wV k W := by
  obtain ⟨cur, h1, h2⟩ := h.row
  exact ⟨⟨cur, h1.to hb, h2⟩, h.kb.to hb, h.g1.to hb, bThen h.be hb⟩
theorem DblI.cell {ks fs : List Int} {n g B : Nat} {y1 : Option Addr} {e1 e2 : Nat} {wV : World} {k : Nat} {wr : World} (h : DblI ks fs n g B y1 e1 e2 wV k wr) (hk : k ≤ fs.length) {j : Nat} (hj : j < fs.length) :
    g < wr.heap.size ∧ wr.cell? ⟨g, j, none⟩ = some (.int .i64 (if j < k then 2 * gi fs j else gi fs j)) := by
  obtain ⟨cur, h1, h2⟩ := h.row
  refine ⟨h1.1, ?_⟩
  rw [h1.2.1, h2 j hj]
  unfold ints
  rw [dblL_gi fs k hk]
theorem DblI.next {ks fs : List Int} {n g B : Nat} {y1 : Option Addr} {e1 e2 : Nat} {wV : World} {k : Nat} {wr : World} (h : DblI ks fs n g B y1 e1 e2 wV k wr) (hk : k < fs.length) (hV : wV.heap.size ≤ g) (hgB : g ≠ B) (hy : ∀ b off, y1 = some ⟨b, off, none⟩ → b ≠ g) :
    DblI ks fs n g B y1 e1 e2 wV (k + 1) (wr.setCell ⟨g, k, none⟩ (.int .i64 (2 * gi fs k))) := by
  obtain ⟨cur, h1, h2⟩ := h.row
  have h3 := row_set (l := dblL fs k) (cur := cur) (by rw [dblL_len]; exact h2) (k := k) (by rw [dblL_len]; exact hk) (2 * gi fs k)
  rw [dblL_len] at h3
  exact ⟨⟨_, h1.set k _, h3⟩, h.kb.other (p := ⟨g, k, none⟩) hgB _, h.g1.other ⟨g, k, none⟩ _ hy, h.be.setCell (p := ⟨g, k, none⟩) hV _⟩

end Go.Proofs.Ytmofgejoogikfaa

/-
  Contracts of the base: Mod, Compare at once, IsSmall; areLowest of the statements.
-/
namespace Go.Proofs.Ytmofgejoogikfaa
open Go.RowKit

theorem mod_eq (n m : Int) (hm : 0 < m) : n % m = if n.tmod m < 0 then n.tmod m + m else n.tmod m := by
  have h1 := Int.tmod_add_mul_tdiv n m
  have h2 : (n.tmod m).natAbs < m.natAbs := by rw [Int.natAbs_tmod]; exact Nat.mod_lt _ (by omega)
  generalize n.tmod m = t at *
  generalize n.tdiv m = q at *
  rw [← h1, Int.add_mul_emod_self_left]
  by_cases h : t < 0
  · rw [if_pos h, ← Int.add_emod_right, Int.emod_eq_of_lt (by omega) (by omega)]
  · rw [if_neg h, Int.emod_eq_of_lt (by omega) (by omega)]

set_option maxHeartbeats 400000 in
theorem Mod_any (n m : Int) (w : World) (hm : 0 < m) (hm1 : m ≤ 1000) :
    Calls Try.prog 12 #[.int .i64 n, .int .i64 m] w fun e w' => e = .returned (.int .i64 (n % m)) ∧ w = w' := by
  have h2 : (n.tmod m).natAbs < m.natAbs := by rw [Int.natAbs_tmod]; exact Nat.mod_lt _ (by omega)
  have HE := Lib.hid (mod_eq n m hm)
  have hz : (m == 0) = false := by rw [beq_eq_false_iff_ne]; omega
  have hz2 : ¬ m = 0 := by omega
  have hng : ¬ (n = -9223372036854775808 ∧ m = -1) := by omega
  obtain ⟨r, hr⟩ : ∃ r, n % m = r := ⟨_, rfl⟩
  rw [hr] at HE ⊢
  clear hr
  obtain ⟨t, ht⟩ : ∃ t, n.tmod m = t := ⟨_, rfl⟩
  rw [ht] at HE h2
  by_cases hlt : t < 0
  · have hE : r = t + m := by rw [HE.out, if_pos hlt]
    have HR := Lib.hid hE
    clear hE
    go_enter Try.func12, Try.ntmps12
    go_wp2_with fail
    go_ret
    exact ⟨ret_int HR.out.symm, rfl⟩
  · have hE : r = t := by rw [HE.out, if_neg hlt]
    have HR := Lib.hid hE
    clear hE
    go_enter Try.func12, Try.ntmps12
    go_wp2_with fail
    go_ret
    exact ⟨ret_int HR.out.symm, rfl⟩

end Go.Proofs.Ytmofgejoogikfaa

/-
  Two halves, plain: one displacement set in a copy of the halves.
-/
namespace Go.Proofs.Ytmofgejoogikfaa
open Go.RowKit

theorem i64_sm {p : Int × Int} (h : SmF p) : I64 p := by
  obtain ⟨h1, h2, h3, h4⟩ := h
  exact ⟨by omega, by omega, by omega, by omega⟩
theorem sm_left {ls us l : Fl} (h : ls ++ us = l) (hs : ∀ j, j < l.length → SmF (fg l j)) (k : Nat) (hk : k < ls.length) : SmF (fg ls k) := by
  rw [← fg_app1 (m := us) hk, h]
  exact hs k (by rw [← h, List.length_append]; omega)
theorem sm_right {ls us l : Fl} (h : ls ++ us = l) (hs : ∀ j, j < l.length → SmF (fg l j)) (k : Nat) (hk : k < us.length) : SmF (fg us k) := by
  have := fg_app2 (l := ls) (m := us) (k := ls.length + k) (by omega)
  rw [show ls.length + k - ls.length = k by omega, h] at this
  rw [← this]
  exact hs _ (by rw [← h, List.length_append]; omega)
theorem i64_left {ls us l : Fl} (h : ls ++ us = l) (hs : ∀ j, j < l.length → I64 (fg l j)) (k : Nat) (hk : k < ls.length) : I64 (fg ls k) := by
  rw [← fg_app1 (m := us) hk, h]
  exact hs k (by rw [← h, List.length_append]; omega)
theorem i64_right {ls us l : Fl} (h : ls ++ us = l) (hs : ∀ j, j < l.length → I64 (fg l j)) (k : Nat) (hk : k < us.length) : I64 (fg us k) := by
  have := fg_app2 (l := ls) (m := us) (k := ls.length + k) (by omega)
  rw [show ls.length + k - ls.length = k by omega, h] at this
  rw [← this]
  exact hs _ (by rw [← h, List.length_append]; omega)
theorem i64_set {l : Fl} (hs : ∀ j, j < l.length → SmF (fg l j)) {a : Nat} (ha : a < l.length) {p : Int × Int} (hp : I64 p) (j : Nat) (hj : j < (l.set a p).length) : I64 (fg (l.set a p) j) := by
  rw [List.length_set] at hj
  rw [fg_set ha]
  split
  · exact hp
  · exact i64_sm (hs j hj)
/-- What the wrong halves are. -/
structure WrongI (ks fs : List Int) (F : Int) (nd m : Nat) (ls us : Fl) : Prop where
  l1 : ls.length = nd + 1
  l2 : us.length = m
  i1 : ∀ k, k < ls.length → I64 (fg ls k)
  i2 : ∀ k, k < us.length → I64 (fg us k)
  no : (chH ks fs ls us F nd).2 = 19 ∨ (chH ks fs ls us F nd).2 = 2
theorem WrongI.of {ks fs : List Int} {F : Int} {nd m : Nat} {ls us l : Fl} {L : Int} (hv : Mvd ks fs l L) (hF : (fs.drop (nd + 1)).sum = F) (hnd : ndE ks fs nd = 0) (hs : ∀ j, j < l.length → SmF (fg l j)) {a : Nat} (ha : a < l.length) {s : Int} (h1 : s = 1 ∨ s = -1)
    (e : ls ++ us = l.set a ((fg l a).1 + s * (fg l a).2, (fg l a).2)) (l1 : ls.length = nd + 1) (l2 : us.length = m) : WrongI ks fs F nd m ls us := by
  obtain ⟨n0, n1, d0, d1⟩ := hs a ha
  have hp : I64 ((fg l a).1 + s * (fg l a).2, (fg l a).2) := by rcases h1 with rfl | rfl <;> exact ⟨by dsimp only; omega, by dsimp only; omega, by dsimp only; omega, by dsimp only; omega⟩
  have hi := i64_set hs ha hp
  refine ⟨l1, l2, i64_left e hi, i64_right e hi, ?_⟩
  rw [← hF]
  exact wrong_no hv hnd h1 (by rw [← hv.len]; exact ha) l1 (by rw [e, List.length_set]) (fun j hj => by rw [e, fg_set ha, if_neg hj]) (by rw [e, fg_set ha, if_pos rfl])
theorem low_gcd {n d : Int} (h : lowB n d = true) : Int.gcd n d = 1 := by
  unfold lowB at h
  simp only [Bool.and_eq_true, beq_iff_eq] at h
  omega

end Go.Proofs.Ytmofgejoogikfaa

/-
  The sum of the drifts of a frame, in its box; the drifts are small fractions.
-/
namespace Go.Proofs.Ytmofgejoogikfaa
open Go.RowKit

theorem drf_sm {ks fs : List Int} (hok : ChOk ks fs) {k : Nat} (hk : k < ks.length) : SmF (drf ks fs k) := by
  have hK := hok.k1 k hk
  have hl := hok.len
  have hf := hok.few
  have hb := drop_bd (fs := fs) (fun j hj => hok.f1 j (by omega)) (fs.length - k) k (by omega)
  have n1 : (drf ks fs k).1.natAbs ≤ (fs.drop k).sum.natAbs := fr_bd1 (Nat.le_refl _)
  have n2 : (drf ks fs k).2.natAbs ≤ (gi ks k).natAbs := fr_bd2 (Nat.le_refl _)
  have n3 : 0 < (drf ks fs k).2 := fr_pos (by omega)
  exact ⟨by omega, by omega, by omega, by omega⟩
theorem nbB_succ (l : List (Int × Int)) (k : Nat) : nbB l (k + 1) = fg l k := by unfold nbB; rw [if_pos (by omega)]; rfl
theorem nbB_sm {l : List (Int × Int)} {k : Nat} (hk : k ≤ l.length) (h : ∀ j, j < l.length → lowB (fg l j).1 (fg l j).2 = true ∧ SmF (fg l j)) : SmF (nbB l k) ∧ fr (nbB l k).1 (nbB l k).2 = nbB l k := by
  unfold nbB
  by_cases h0 : 0 < k
  · rw [if_pos h0]
    obtain ⟨h1, h2⟩ := h (k - 1) (by omega)
    exact ⟨h2, fr_id (low_gcd h1)⟩
  · rw [if_neg h0]
    exact ⟨⟨by decide, by decide, by decide, by decide⟩, fr_id (by decide)⟩
theorem Add_drift {ks fs : List Int} {l : List (Int × Int)} {L : Int} (hm : Mvd ks fs l L) (hs : ∀ j, j < l.length → lowB (fg l j).1 (fg l j).2 = true ∧ SmF (fg l j)) {k : Nat} (hk : k < ks.length) (a1 a2 b1 b2 : Option Addr) (v1 v2 : Value) (w : World)
    (h1 : RR w a1 a2 v1 (nbB l k)) (h2 : RR w b1 b2 v2 (fr (drf ks fs k).1 (drf ks fs k).2)) :
    Calls Try.prog 16 #[v1, v2] w fun e w1 => RPost [] (fg l k) w e w1 := by
  obtain ⟨h3, h4⟩ := nbB_sm (k := k) (by have := hm.len; omega) hs
  have h := Add_sm (nbB l k) (drf ks fs k) a1 a2 b1 b2 v1 v2 w h3 (drf_sm hm.ok hk) (by rw [h4]; exact h1) h2
  rw [h4, drf_sum hm hk] at h
  exact h
theorem Cmp_same (p : Int × Int) (a1 a2 b1 b2 : Option Addr) (v1 v2 : Value) (w : World) (hp : SmF p) (hl : lowB p.1 p.2 = true) (h1 : RR w a1 a2 v1 p) (h2 : RR w b1 b2 v2 (fr p.1 p.2)) :
    Calls Try.prog 18 #[v1, v2] w fun e w' => e = .returned (.int .i64 0) ∧ Below w.heap.size w w' := by
  obtain ⟨x1, x2, -⟩ := dg_sm hp
  have e : fr p.1 p.2 = p := fr_id (low_gcd hl)
  rw [e] at h2 x1 x2
  have hc := RatioCmp_any p p a1 a2 b1 b2 v1 v2 w h1 h2 (by omega) (by omega) (by omega) (by omega)
  rw [Int.sub_self] at hc
  exact hc
/-- The loop over the drifts: after k of them. -/
structure SumI (l : List (Int × Int)) (wS : World) (B k : Nat) (wr : World) : Prop where
  ex : ∃ s1 a1 n1 c1 s2 a2 n2 c2, Blk wr B #[.int .i64 s1, .slice a1 n1 c1, .int .i64 s2, .slice a2 n2 c2] ∧ RR wr a1 a2 (.agg #[.int .i64 s1, .slice a1 n1 c1, .int .i64 s2, .slice a2 n2 c2]) (nbB l k)
  be : Below B wS wr
theorem SumI.to {l : List (Int × Int)} {wS : World} {B k : Nat} {wr W : World} (h : SumI l wS B k wr) (hb : Below wr.heap.size wr W) : SumI l wS B k W := by
  obtain ⟨s1, a1, n1, c1, s2, a2, n2, c2, h1, h2⟩ := h.ex
  exact ⟨⟨s1, a1, n1, c1, s2, a2, n2, c2, h1.to hb, h2.to hb⟩, h.be.trans (hb.mono (Nat.le_of_lt h1.1))⟩
theorem SumI.next {l : List (Int × Int)} {wS : World} {B k : Nat} {W : World} {x y z u : Value} {s1 s2 : Int} {a1 a2 : Option Addr} {n1 c1 n2 c2 : Nat} (hk : Blk W B #[x, y, z, u]) (be : Below B wS W)
    (hr : RR W a1 a2 (.agg #[.int .i64 s1, .slice a1 n1 c1, .int .i64 s2, .slice a2 n2 c2]) (fg l k)) (l1 : Loc (fun c => c ≠ B) a1 (fg l k).1) (l2 : Loc (fun c => c ≠ B) a2 (fg l k).2) :
    SumI l wS B (k + 1) ((((W.setCell ⟨B, 0, none⟩ (.int .i64 s1)).setCell ⟨B, 1, none⟩ (.slice a1 n1 c1)).setCell ⟨B, 2, none⟩ (.int .i64 s2)).setCell ⟨B, 3, none⟩ (.slice a2 n2 c2)) := by
  have h1 := hk.set 0 (.int .i64 s1)
  have h2 := h1.set 1 (.slice a1 n1 c1)
  have h3 := h2.set 2 (.int .i64 s2)
  have h4 := h3.set 3 (.slice a2 n2 c2)
  simp only [List.setIfInBounds_toArray, List.set_cons_zero, List.set_cons_succ] at h4
  have r1 := hr.set1 l1 l2 (i := 0) (.int .i64 s1)
  have r2 := r1.set1 l1 l2 (i := 1) (.slice a1 n1 c1)
  have r3 := r2.set1 l1 l2 (i := 2) (.int .i64 s2)
  have r4 := r3.set1 l1 l2 (i := 3) (.slice a2 n2 c2)
  rw [← nbB_succ] at r4
  have b1 := be.setCell (p := ⟨B, 0, none⟩) (Nat.le_refl _) (.int .i64 s1)
  have b2 := b1.setCell (p := ⟨B, 1, none⟩) (Nat.le_refl _) (.slice a1 n1 c1)
  have b3 := b2.setCell (p := ⟨B, 2, none⟩) (Nat.le_refl _) (.int .i64 s2)
  have b4 := b3.setCell (p := ⟨B, 3, none⟩) (Nat.le_refl _) (.slice a2 n2 c2)
  exact ⟨⟨s1, a1, n1, c1, s2, a2, n2, c2, h4, r4⟩, b4⟩

/-- Three operations of which each may come next. -/
theorem WE_three {P : Program} {N m : Nat} {l : List Oper} {Q : Exit → Act → World → Prop} {f : Nat} {listed : Array Bool} {a : Act} {w : World} (i j k : Nat) {o p q : Oper} (hi : l[i]? = some o) (hj : l[j]? = some p) (hk : l[k]? = some q) (him : i < m) (hjm : j < m) (hkm : k < m)
    (hr : Region.ready .any l.toArray listed = [i, j, k]) (h : stepE P N m l Q f i listed o a w) (h' : stepE P N m l Q f j listed p a w) (h'' : stepE P N m l Q f k listed q a w) : WE P N m l Q (f + 1) listed a w := by
  refine ⟨fun ⟨inv, ht⟩ => ⟨fun h1 => (by rw [hr] at h1; cases h1), fun x hx => ?_⟩⟩
  have hx' := hx
  rw [hr] at hx
  simp only [List.mem_cons, List.not_mem_nil, or_false] at hx
  rcases hx with rfl | rfl | rfl
  · exact h.op hi him hx' inv ht
  · exact h'.op hj hjm hx' inv ht
  · exact h''.op hk hkm hx' inv ht
theorem Reads.blt {W : World} {a : Option Addr} {m : Nat} {f : Nat → Value} (h : Reads W a m f) (hm : 0 < m) : ∀ p, a = some p → p.block < W.heap.size := by
  intro p hp
  obtain ⟨b, off, e, hb, -⟩ := h.at (k := 0) hm
  rw [hp] at e
  cases e
  exact hb
theorem topF_set {n k : Nat} (h : k + 1 = n) (x : Int) : (List.replicate n (0 : Int)).set k x = topF n x := by
  subst h
  unfold topF
  rw [List.replicate_succ', List.set_append_right _ _ (by simp), List.length_replicate, Nat.sub_self, Nat.add_sub_cancel]
  rfl
/-- The chain whose top alone is drawn. -/
structure TopI (ks : List Int) (n : Nat) (w0 : World) (g B : Nat) (y : Option Addr) (e : Nat) (z : List Int) (wc : World) : Prop where
  kb : Blk wc B (chV y n e (some ⟨g, 0, none⟩) n n)
  kg : OutB wc g z
  hy : Reads wc y n (ints ks)
  ne : g ≠ B
  ge : n ≤ e
  yg : ∀ p, y = some p → p.block ≠ g
  be : Below w0.heap.size w0 wc
  g0 : w0.heap.size ≤ g
theorem OutB.other {W : World} {b : Nat} {os : List Int} (h : OutB W b os) {p : Addr} (hp : p.block ≠ b) (v : Value) : OutB (W.setCell p v) b os :=
  ⟨by simpa [World.setCell] using h.1, fun o ho => by rw [World.cell?_setCell_other _ _ _ _ (by intro e; subst e; exact hp rfl)]; exact h.2.1 o ho, fun o => by rw [World.frozen?_setCell]; exact h.2.2 o⟩
theorem TopI.of {ks : List Int} {n : Nat} {w0 : World} {g B : Nat} {y : Option Addr} {e : Nat} {z : List Int} {W : World} {u v : Value} (hk : Blk W B #[u, v]) (hg : OutB W g z) (hy : Reads W y n (ints ks)) (hne : g ≠ B) (hge : n ≤ e)
    (yg : ∀ p, y = some p → p.block ≠ g) (yb : ∀ p, y = some p → p.block ≠ B) (be : Below w0.heap.size w0 W) (g0 : w0.heap.size ≤ g) (b0 : w0.heap.size ≤ B) :
    TopI ks n w0 g B y e z ((W.setCell ⟨B, 0, none⟩ (.slice y n e)).setCell ⟨B, 1, none⟩ (.slice (some ⟨g, 0, none⟩) n n)) := by
  have h1 := hk.set 0 (.slice y n e)
  have h2 := h1.set 1 (.slice (some ⟨g, 0, none⟩) n n)
  simp only [List.setIfInBounds_toArray, List.set_cons_zero, List.set_cons_succ] at h2
  have o1 := hg.other (p := ⟨B, 0, none⟩) (Ne.symm hne) (.slice y n e)
  have o2 := o1.other (p := ⟨B, 1, none⟩) (Ne.symm hne) (.slice (some ⟨g, 0, none⟩) n n)
  have y1 := hy.other ⟨B, 0, none⟩ (.slice y n e) (fun b off hb => yb _ hb)
  have y2 := y1.other ⟨B, 1, none⟩ (.slice (some ⟨g, 0, none⟩) n n) (fun b off hb => yb _ hb)
  have b1 := be.setCell (p := ⟨B, 0, none⟩) b0 (.slice y n e)
  have b2 := b1.setCell (p := ⟨B, 1, none⟩) b0 (.slice (some ⟨g, 0, none⟩) n n)
  exact ⟨h2, o2, y2, hne, hge, yg, b2, g0⟩
theorem TopI.set {ks : List Int} {n : Nat} {w0 : World} {g B : Nat} {y : Option Addr} {e k : Nat} {W : World} (h : TopI ks n w0 g B y e (List.replicate n 0) W) (hk : k + 1 = n) (x : Int) : TopI ks n w0 g B y e (topF n x) (W.setCell ⟨g, k, none⟩ (.int .i64 x)) := by
  rw [← topF_set hk]
  exact ⟨h.kb.other (p := ⟨g, k, none⟩) h.ne _, h.kg.set (by rw [List.length_replicate]; omega) x, h.hy.other ⟨g, k, none⟩ _ (fun b off hb => h.yg _ hb), h.ne, h.ge, h.yg, h.be.setCell (p := ⟨g, k, none⟩) h.g0 _, h.g0⟩

set_option maxHeartbeats 400000 in
theorem Whole_any (n : Int) (w : World) : Calls Try.prog 23 #[.int .i64 n] w fun e w' => e = .returned (.agg #[.int .i64 n, .int .i64 1]) ∧ Below w.heap.size w w' := by
  go_enter Try.func23, Try.ntmps23
  go_upto_region 1 with (fail)
  obtain ⟨w1, hw1⟩ : ∃ w1, w.alloc (.cells #[.int .i64 0, .int .i64 0] 55) = w1 := ⟨_, rfl⟩
  rw [hw1]
  have K0 : Hid (Blk w1 w.heap.size #[.int .i64 0, .int .i64 0]) := by subst hw1; exact Lib.hid (Blk.new _ _ _)
  have HB : Hid (Below w.heap.size w w1) := by subst hw1; exact Lib.hid (bAlloc (bSelf w) _)
  clear hw1
  obtain ⟨-, k0, f0⟩ := K0.out
  go_wp2_with fail
  have F := (K0.out.set 0 (.int .i64 n)).set 1 (.int .i64 1)
  have F0 := F.2.1 0
  have F1 := F.2.1 1
  clear F k0 f0
  refine bodyPost_ret (v := .agg #[.int .i64 n, .int .i64 1]) ?_ rfl ⟨rfl, ?_⟩
  · simp [results, Try.results23, go_sem, F0, F1]
  · exact (HB.out.setCell (p := ⟨w.heap.size, 0, none⟩) (Nat.le_refl _) _).setCell (p := ⟨w.heap.size, 1, none⟩) (Nat.le_refl _) _

end Go.Proofs.Ytmofgejoogikfaa

