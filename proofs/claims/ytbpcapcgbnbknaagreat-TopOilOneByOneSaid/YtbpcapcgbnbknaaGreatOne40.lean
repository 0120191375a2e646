/-
  Texts of this claim, in their build order: OM27.
-/
import Derived.Test.YtbpcapcgbnbknaaGreatOne38
import Derived.Test.YtbpcapcgbnbknaaGreatOne39
import Derived.Test.YtbpcapcgbnbknaaGreatOne5
import Derived.Test.YtbpcapcgbnbknaaGreatOne0

namespace Go.Proofs.YtbpcapcgbnbknaaGreat
section
open Go.RowKit
attribute [local go_sem] Oper.semAt_some

/-- ReachedBy's answer and its error. -/
def rchE (p : Plt) (s : OSt) (c : List (Int × Int)) : Int := if opCE p s.1 c = 0 then (if (rchR p [s] c).isSome then 0 else 22) else opCE p s.1 c
def rchO (p : Plt) (s : OSt) (c : List (Int × Int)) : List OSt := if opCE p s.1 c = 0 then (rchR p [s] c).getD [] else []

structure RbJ (b6 b10 base : Nat) (w : World) (v : Value) (L : List OSt) (M1 : Nat → Prop) (W : World) : Prop where
  k6 : Blk W b6 #[.slice none 0 0]
  k7 : Blk W (b6 + 1) #[.int .i64 0]
  k10 : Blk W b10 #[v]
  own : W.ownsRow base stT 2 v L.length (scells L)
  be : Below w.heap.size w W
  lt : w.heap.size ≤ b6 ∧ b6 + 1 < b10 ∧ b10 < base
  m6 : M1 b6 ∧ M1 (b6 + 1) ∧ M1 b10
  mv : ∀ k, v.ownBlock = some k → M1 k
  fit : ∀ k, M1 k → k < W.heap.size
theorem RbJ.to {b6 b10 base : Nat} {w : World} {v : Value} {L : List OSt} {M1 : Nat → Prop} {W W' : World} (h : RbJ b6 b10 base w v L M1 W) (hb : Below W.heap.size W W') : RbJ b6 b10 base w v L M1 W' :=
  ⟨h.k6.to hb, h.k7.to hb, h.k10.to hb, owns_to h.own hb, bThen h.be hb, h.lt, h.m6, h.mv, fun k hk => Nat.lt_of_lt_of_le (h.fit k hk) hb.size⟩
theorem RbJ.agree {b6 b10 base : Nat} {w : World} {v : Value} {L : List OSt} {M1 : Nat → Prop} {B : Nat} {W W' : World} (h : RbJ b6 b10 base w v L M1 W) (hag : Agree B M1 W W') (hB : b10 < B) : RbJ b6 b10 base w v L M1 W' := by
  obtain ⟨l1, l2, l3⟩ := h.lt
  have hb := hag.below
  refine ⟨h.k6.below hb (by omega), h.k7.below hb (by omega), h.k10.below hb (by omega), ⟨h.own.1, ?_⟩, h.be.trans (hb.mono (by omega)), h.lt, h.m6, h.mv, fun k hk => Nat.lt_of_lt_of_le (h.fit k hk) hag.size⟩
  rcases h.own.2 with hn | ⟨g, cap, cur, e, hbg, hg, rest⟩
  · exact .inl hn
  · exact .inr ⟨g, cap, cur, e, hbg, (hag.same g (Array.getElem?_eq_some_iff.1 hg).1 (h.mv g (by rw [e]; rfl))).trans hg, rest⟩
theorem RbJ.nil {b6 b10 base : Nat} {w : World} {v : Value} {L : List OSt} {M1 : Nat → Prop} {W : World} (h : RbJ b6 b10 base w v L M1 W) : RbJ b6 b10 base w (.slice none 0 0) [] M1 (W.setCell ⟨b10, 0, none⟩ (.slice none 0 0)) := by
  obtain ⟨l1, l2, l3⟩ := h.lt
  exact ⟨h.k6.other (p := ⟨b10, 0, none⟩) (show b10 ≠ b6 by omega) _, h.k7.other (p := ⟨b10, 0, none⟩) (show b10 ≠ b6 + 1 by omega) _, h.k10.set 0 _, ⟨rfl, .inl ⟨rfl, rfl⟩⟩, h.be.setCell (p := ⟨b10, 0, none⟩) (show w.heap.size ≤ b10 by omega) _, h.lt, h.m6, fun k hk => (by cases hk), fun k hk => by simpa [World.setCell] using h.fit k hk⟩
theorem RbJ.app {b6 b10 base : Nat} {w : World} {v : Value} {L : List OSt} {M1 : Nat → Prop} {W : World} (h : RbJ b6 b10 base w v L M1 W) (o : Obj) {w1 : World} {v' : Value} {s : OSt}
    (hown' : w1.ownsRow base stT 2 v' (L.length + 1) (scells L ++ [.int .i64 s.1, .bool s.2])) (hg : (W.alloc o).grownBy w1 v.ownBlock) (hw : v'.ownBlock = v.ownBlock ∨ v'.ownBlock = some (W.heap.size + 1)) :
    RbJ b6 b10 base w v' (L ++ [s]) (fun k => M1 k ∨ v'.ownBlock = some k) (w1.setCell ⟨b10, 0, none⟩ v') ∧ Upd M1 (fun k => M1 k ∨ v'.ownBlock = some k) W (w1.setCell ⟨b10, 0, none⟩ v') := by
  obtain ⟨l1, l2, l3⟩ := h.lt
  have HU := upd_appended (M := M1) (B := b10) h.fit h.m6.2.2 h.mv hown' hg hw
  have hne : ∀ b, b < base → v.ownBlock ≠ some b := fun b hb e => by have := (h.own.lt b e).1; omega
  have key : ∀ {b : Nat} {cs : Array Value}, Blk W b cs → b < base → b ≠ b10 → Blk (w1.setCell ⟨b10, 0, none⟩ v') b cs := fun hk h1 h2 => (blk_grown (hk.alloc o) hg (hne _ h1)).other (p := ⟨b10, 0, none⟩) (fun e => h2 e.symm) _
  have hsz := h.be.size
  have hs2 := hg.size
  simp only [World.size_alloc] at hs2
  refine ⟨⟨key h.k6 (by omega) (by omega), key h.k7 (by omega) (by omega), (blk_grown (h.k10.alloc o) hg (hne _ l3)).set 0 _, ?_, ?_, h.lt, ⟨.inl h.m6.1, .inl h.m6.2.1, .inl h.m6.2.2⟩, fun k hk => .inr hk, HU.fit⟩, HU⟩
  · rw [scells_app]
    have : (L ++ [s]).length = L.length + 1 := by simp
    rw [this]
    exact owns_set hown' (p := ⟨b10, 0, none⟩) l3
  · exact ((bAlloc h.be o).grown hg (by simp; omega) (fun k e => by have := (h.own.lt k e).1; omega)).setCell (p := ⟨b10, 0, none⟩) (show w.heap.size ≤ b10 by omega) _
/-- What has been yielded so far. -/
def RbI (xs : List TkI) (b6 b10 base : Nat) (w : World) (pre : List TkI) (M1 : Nat → Prop) (W : World) : Prop :=
  ∃ (v : Value) (L : List OSt), (∀ rest, xs = pre ++ rest → lstA xs [] = lstA rest L) ∧ L.Nodup ∧ L.length ≤ 402 ∧ RbJ b6 b10 base w v L M1 W
/-- Where some demands empty the plant. -/
def RbX (xs : List TkI) (b6 : Nat) (w W : World) : Prop :=
  lstA xs [] = none ∧ Blk W b6 #[.slice none 0 0] ∧ Blk W (b6 + 1) #[.int .i64 22] ∧ Below w.heap.size w W ∧ w.heap.size ≤ W.heap.size
theorem RbX.putObj {xs : List TkI} {b6 : Nat} {w W : World} (h : RbX xs b6 w W) {l : Nat} (o : Obj) (h1 : b6 + 1 < l) (h2 : w.heap.size ≤ l) : RbX xs b6 w (W.putObj l o) := by
  obtain ⟨e, k1, k2, hb, hs⟩ := h
  exact ⟨e, blk_grown k1 (grownBy_putObj' W l o) (fun e => by injection e with e; omega), blk_grown k2 (grownBy_putObj' W l o) (fun e => by injection e with e; omega), hb.grown (grownBy_putObj' W l o) hs (fun k e => by cases e; exact h2), by rw [putObj_size']; exact hs⟩
theorem two_set {W w : World} {b6 : Nat} {x6 x7 : Value} (k6 : Blk W b6 #[x6]) (k7 : Blk W (b6 + 1) #[x7]) (hb : Below w.heap.size w W) (hw : w.heap.size ≤ b6) (v6 v7 : Value) :
    Blk ((W.setCell ⟨b6, 0, none⟩ v6).setCell ⟨b6 + 1, 0, none⟩ v7) b6 #[v6] ∧ Blk ((W.setCell ⟨b6, 0, none⟩ v6).setCell ⟨b6 + 1, 0, none⟩ v7) (b6 + 1) #[v7] ∧
    Below w.heap.size w ((W.setCell ⟨b6, 0, none⟩ v6).setCell ⟨b6 + 1, 0, none⟩ v7) := by
  refine ⟨?_, ?_, ?_⟩
  · exact (k6.set 0 v6).other (p := ⟨b6 + 1, 0, none⟩) (show b6 + 1 ≠ b6 by omega) _
  · exact (k7.other (p := ⟨b6, 0, none⟩) (show b6 ≠ b6 + 1 by omega) v6).set 0 v7
  · exact (hb.setCell (p := ⟨b6, 0, none⟩) hw _).setCell (p := ⟨b6 + 1, 0, none⟩) (show w.heap.size ≤ b6 + 1 by omega) _
theorem upd_two {W Wa : World} {M M1 : Nat → Prop} {b6 : Nat} (hU : Upd M M1 Wa W) (m : M1 b6 ∧ M1 (b6 + 1)) (v6 v7 : Value) : Upd M M1 Wa ((W.setCell ⟨b6, 0, none⟩ v6).setCell ⟨b6 + 1, 0, none⟩ v7) := by
  have h1 := hU.trans (Upd.setCell hU.fit ⟨b6, 0, none⟩ v6 m.1)
  exact h1.trans (Upd.setCell h1.fit ⟨b6 + 1, 0, none⟩ v7 m.2)
theorem rch_some {p : Plt} {s : OSt} {c : List (Int × Int)} {k : List OSt} (h : lstA (tks p c [(s, [])]) [] = some k) {l : List OSt} (hs : SrtS l) (hm : ∀ x, x ∈ l ↔ x ∈ k) : rchR p [s] c = some l := by
  obtain ⟨h1, h2⟩ := rch_law (p := p) c [(s, [])] [s] [] (List.pairwise_singleton _ _) (fun x => by simp [sts])
  cases hr : rchR p [s] c with
  | none => rw [h1.1 hr] at h; cases h
  | some m =>
    obtain ⟨h3, k', e, h4⟩ := h2 m hr
    rw [h] at e; cases e
    rw [srt_ext h3 hs (fun x => (h4 x).trans (hm x).symm)]
theorem rch_none {p : Plt} {s : OSt} {c : List (Int × Int)} (h : lstA (tks p c [(s, [])]) [] = none) : rchR p [s] c = none :=
  (rch_law (p := p) c [(s, [])] [s] [] (List.pairwise_singleton _ _) (fun x => by simp [sts])).1.2 h

set_option maxHeartbeats 12800000 in
set_option maxRecDepth 100000 in
theorem ReachedBy_any (p : Plt) (s : OSt) (c : List (Int × Int)) (a ac : Option Addr) (cap cc : Nat) (w : World) (hlen : p.pts.length ≤ 1000) (hlc : c.length ≤ maxLen) (hrc : Reads w ac (c.length * 2) (fracs c)) (hr : Reads w a (p.pts.length * 2) (fracs p.pts)) :
    Calls Tryz.prog 32 #[.agg (plC p a cap), .agg #[.int .i64 s.1, .bool s.2], .slice ac c.length cc] w (SPost (rchO p s c) (rchE p s c) w) := by
  have HO := zH (fun W (hb : Below w.heap.size w W) => openClass_any p s c a ac cap cc W hlen hlc (hrc.to hb) (hr.to hb))
  have HA : Hid (rchO p s c = if opCE p s.1 c = 0 then (rchR p [s] c).getD [] else []) := zH rfl
  have HE : Hid (rchE p s c = if opCE p s.1 c = 0 then (if (rchR p [s] c).isSome then 0 else 22) else opCE p s.1 c) := zH rfl
  have HRS := zH (fun (k : List OSt) (h : lstA (tks p c [(s, [])]) [] = some k) (l : List OSt) hs hm => rch_some h (l := l) hs hm)
  have HRN := zH (fun (h : lstA (tks p c [(s, [])]) [] = none) => rch_none h)
  obtain ⟨ro, hro⟩ : ∃ e, rchO p s c = e := ⟨_, rfl⟩
  obtain ⟨re, hre⟩ : ∃ e, rchE p s c = e := ⟨_, rfl⟩
  have HPO : Hid (∀ e w', SPost ro re w e w' ↔ ∃ a' c', e = .returned (.tuple #[.slice a' ro.length c', .int .i64 re]) ∧ ro.length ≤ c' ∧ Reads w' a' (ro.length * 2) (osts ro) ∧ Below w.heap.size w w' ∧ ∀ q, a' = some q → w.heap.size ≤ q.block) := zH (fun e w' => Iff.rfl)
  rw [hro] at HA ⊢
  rw [hre] at HE ⊢
  obtain ⟨PO, hPO⟩ : ∃ PO, SPost ro re w = PO := ⟨_, rfl⟩
  rw [hPO] at HPO ⊢
  clear hro hre hPO
  by_cases h0 : opCE p s.1 c = 0
  · obtain ⟨hp, hs, hcl⟩ := opCE_ok h0
    rw [if_pos h0] at HA HE
    rw [h0] at HO
    have HT := zH (fun al cap' cl bs bc bp W hF => ticks1_in 3 p s c a al ac cap' cl cc bs bc bp W hp hs hcl hF)
    have HRC := zH hrc
    have HTK := zH (fun al cl W => ticks_any p s a al ac cap cl c.length cc W)
    have HP := zH hp
    have HS := zH hs
    obtain ⟨xs, hxs⟩ : ∃ xs, tks p c [(s, [])] = xs := ⟨_, rfl⟩
    have HXS := zH hxs
    have HCN := zH hcl.1
    rw [hxs] at HT HRS HRN
    obtain ⟨rr, hrr⟩ : ∃ r, rchR p [s] c = r := ⟨_, rfl⟩
    rw [hrr] at HRS HRN HA HE
    clear hp hs hcl h0 hrc hr hxs hlen hlc hrr
    obtain ⟨s1, sr⟩ := s
    dsimp only at HTK HO HA HE ⊢
    refine (callsIn_wide (n := 4)).1 ?_
    refine callsIn_of_wp_marks Tryz.func32 rfl trivial ?_ rfl
    simp only [Tryz.ntmps32, List.size_toArray, List.length_cons, List.length_nil, Nat.reduceAdd, Nat.reduceSub, Array.replicate_succ, Array.replicate_zero, List.push_toArray, List.append_toArray, List.nil_append, List.cons_append]
    gi_wp2_with fail
    refine ⟨trivial, (callsIn_wide.2 (HO.out _ (bAlloc (bAlloc (bAlloc (bAlloc (bSelf w) _) _) _) _))).mono ?_⟩
    intro e w1 hpost
    obtain ⟨al, cl, rfl, hcl, hrd, hb, hfr⟩ := hpost.ex
    have K4 : Hid (Blk w1 (w.heap.size + 1) #[.int .i64 s1, .bool sr]) := zH ((((Blk.newAt _ _ _ (by simp)).alloc _).alloc _).to hb)
    have K6 : Hid (Blk w1 (w.heap.size + 1 + 1) #[.slice none 0 0]) := zH (((Blk.newAt _ _ _ (by simp)).alloc _).to hb)
    have K7 : Hid (Blk w1 (w.heap.size + 1 + 1 + 1) #[.int .i64 0]) := zH ((Blk.newAt _ _ _ (by simp)).to hb)
    have HB := zH (bThen (bAlloc (bAlloc (bAlloc (bAlloc (bSelf w) _) _) _) _) hb)
    have HRD := zH hrd
    have hsw : w.heap.size + 1 + 1 + 1 + 1 ≤ w1.heap.size := by have := hb.size; simpa using this
    have HSW := zH hsw
    have HAL : Hid (∀ q, al = some q → w.heap.size + 1 + 1 + 1 < q.block ∧ q.block < w1.heap.size) := zH (fun q hq => by
      have h1 := hfr q hq
      simp only [World.size_alloc] at h1
      have h2 := HP.out.pts.two
      obtain ⟨b', off', e', h, -⟩ := hrd.at (k := 0) (by omega)
      rw [hq] at e'; injection e' with e'; subst e'
      exact ⟨by omega, h⟩)
    clear hb hrd hpost hfr HO hsw
    have k1 := K4.out.c1
    have k2 := K4.out.c2
    gi_wp2_with fail
    clear k1 k2
    obtain ⟨W4, hW4⟩ : ∃ W4, ((w1.alloc (.cells (plL p a cap al cl) 145)).alloc (.cells #[.slice none 0 0] 67)) = W4 := ⟨_, rfl⟩
    rw [hW4]
    have hb4 : Below w1.heap.size w1 W4 := by subst hW4; exact bAlloc (bAlloc (bSelf w1) _) _
    have K10 : Hid (Blk W4 (w1.heap.size + 1) #[.slice none 0 0]) := by subst hW4; exact zH (Blk.newAt _ _ _ (by simp))
    have hs4 : W4.heap.size = w1.heap.size + 1 + 1 := by subst hW4; simp
    clear hW4
    refine ⟨trivial, (callsIn_wide.2 (HTK.out al cl W4)).mono ?_⟩
    rintro e w' ⟨rfl, rfl⟩
    obtain ⟨W5, hW5⟩ : ∃ W5, ((W4.alloc (.cells (plL p a cap al cl) 145)).alloc (.cells #[.int .i64 s1, .bool sr] 53)).alloc (.cells #[.slice ac c.length cc] 54) = W5 := ⟨_, rfl⟩
    rw [hW5]
    have hb5 : Below W4.heap.size W4 W5 := by subst hW5; exact bAlloc (bAlloc (bAlloc (bSelf W4) _) _) _
    have hs5 : W5.heap.size = w1.heap.size + 5 := by subst hW5; simp [hs4]
    have hb35 : Below w1.heap.size w1 W5 := bThen hb4 hb5
    have HB5 : Hid (Below w.heap.size w W5) := zH (bThen HB.out hb35)
    have HF : Hid (TkF p (s1, sr) c a al ac cap cl cc (W4.heap.size + 1) (W4.heap.size + 1 + 1) W4.heap.size W5) := by
      have h1 := HRD.out.to hb35
      subst hW5
      exact zH ⟨(Blk.newAt _ _ _ (by simp)).alloc _, Blk.newAt _ _ _ (by simp), ((Blk.new _ _ _).alloc _).alloc _, h1, HRC.out.to HB5.out⟩
    have hsw := HSW.out
    have HJ0 : Hid (RbJ (w.heap.size + 1 + 1) (w1.heap.size + 1) (w1.heap.size + 2) w (.slice none 0 0) [] (fun k => k = w.heap.size + 1 + 1 ∨ k = w.heap.size + 1 + 1 + 1 ∨ k = w1.heap.size + 1) W5) := zH
      ⟨K6.out.to hb35, K7.out.to hb35, K10.out.to hb5, ⟨rfl, .inl ⟨rfl, rfl⟩⟩, HB5.out, by omega, by simp, fun k hk => (by cases hk), fun k hk => by omega⟩
    have HSQ := HT.out _ _ _ _ _ _ W5 HF.out
    have HRD5 : Hid (∀ k, TkR p c al ac (W4.heap.size + 1) (W4.heap.size + 1 + 1) W4.heap.size k → k < W5.heap.size) := zH (fun k hk => HF.out.lt hk)
    have HRM : Hid (∀ k, (k = w.heap.size + 1 + 1 ∨ k = w.heap.size + 1 + 1 + 1 ∨ k = w1.heap.size + 1) → ¬ TkR p c al ac (W4.heap.size + 1) (W4.heap.size + 1 + 1) W4.heap.size k) := zH (fun k hk h => by
      rcases h with h | h | h | ⟨h0, off, e⟩ | ⟨h0, off, e⟩
      · omega
      · omega
      · omega
      · obtain ⟨b', off', e', h, -⟩ := HRC.out.at (k := 0) (by omega)
        rw [e] at e'; cases e'; omega
      · have := HAL.out _ e; dsimp only at this; omega)
    have HOK : Hid (∀ x ∈ xs, LOk p (0 + c.length) x) := zH (by
      rw [← HXS.out]
      exact tks_ok c [((s1, sr), [])] 0 (fun y hy => by simp only [List.mem_cons, List.not_mem_nil, or_false] at hy; subst hy; exact HS.out) (fun y hy => by simp only [List.mem_cons, List.not_mem_nil, or_false] at hy; subst hy; exact Nat.le_refl _) (by simp [sts]))
    have HSQ' := zH HSQ
    have HZ5 := zH hs5
    clear hW5 hb4 hb5 hs4 hb35 hs5 HSQ hsw HTK HT HF K4 K6 K7 K10 HRD
    gi_wp2_with fail
    have hs5 := HZ5.out
    have hsw := HSW.out
    refine wpIn_rangeFunc_V (xs := xs) rfl (by intro args w; go_simp) HSQ'.out (bSelf _) (fun x vs M1 W h => h.size) (fun x vs M1 M0 W h hm => h.less hm) HRD5.out
      (RbI xs (w.heap.size + 1 + 1) (w1.heap.size + 1) (w1.heap.size + 2) w) (fun c pre W => c = .ret ∧ RbX xs (w.heap.size + 1 + 1) w W) _ (fun k hk => ⟨by omega, HRM.out k hk⟩) (fun _ _ _ _ ⟨v, L, h1, h2, h3, h4⟩ hag => ⟨v, L, h1, h2, h3, h4.agree hag (by omega)⟩)
      (fun c pre W1 l o h hl hc => ⟨h.1, h.2.putObj o (by omega) (by omega)⟩)
      (fun b pre x M1 a₁ W => RbI xs (w.heap.size + 1 + 1) (w1.heap.size + 1) (w1.heap.size + 2) w pre M1 W ∧ ∃ v0 v1, TkEnc x #[v0, v1] M1 W ∧ a₁ = { tmps := (((b.tmps.setIfInBounds 29 v0).setIfInBounds 30 v1).setIfInBounds 11 v0).setIfInBounds 12 v1, defers := [] })
      ?hI1 ⟨_, [], fun rest h => by rw [h]; rfl, List.nodup_nil, by simp, HJ0.out⟩ ?hassign ?hbody ?hdone ?hstop
    case hI1 =>
      rintro pre x M1 a₁ Wa l o ⟨⟨v, L, h1, h2, h3, h4⟩, v0, v1, henc, rfl⟩ hl hml hc
      exact ⟨⟨v, L, h1, h2, h3, h4.agree (Agree.putObj _ _ _ hl hml) (by omega)⟩, v0, v1, henc.putObj o hc, rfl⟩
    case hassign =>
      intro l pre x vs rest M1 Wa hxs henc hI hszA
      obtain ⟨a', c', v', ds', rfl, -⟩ := id henc
      have hf : ∀ k, M1 k → k < Wa.heap.size := by obtain ⟨v, L, h1, h2, h3, h4⟩ := hI; exact h4.fit
      clear hs5 hsw
      gi_wp2_with fail
      exact ⟨M1, ⟨hI, _, _, henc, rfl⟩, Upd.refl hf⟩
    case hbody =>
      rintro l pre x rest M1 a₁ Wa hxs ⟨⟨v, L, hso, hnd, hle, hJ⟩, v0, v1, henc, rfl⟩ hszA
      simp only [zzT, zzO, zzS]
      have hok := HOK.out x (by rw [hxs]; simp)
      obtain ⟨now, em⟩ := x
      obtain ⟨na, nc, ve, ds, e, hnc, hLv, hEm⟩ := henc
      injection e with e; injection e with e1 e; injection e with e2 _
      dsimp only at e1 hnc hLv hEm
      subst e1 e2
      have hlen := few_sts HP.out hok.nd hok.st
      dsimp only at hlen
      have HJ := zH hJ
      have HLV := zH hLv
      have HLK := zH hok
      have HW := zH (hso _ hxs)
      have HSO := zH (fun (he : em = none) => (show ∀ rest', xs = (pre ++ [(now, em)]) ++ rest' → lstA xs [] = lstA rest' (sts now) from fun rest' hr => by
        have h1 : xs = pre ++ (now, em) :: rest' := by rw [hr, List.append_assoc]; rfl
        have h2 := hso _ h1
        rw [he] at h2
        rw [h2]
        rfl))
      have hNe : ∀ (w : World) (a : Option Addr) (n c : Nat), Sem.run Tryz.prog (binOp .neq 28 (.slice a n c) (.slice none 0 0)) w = .ok (.bool (!a.isNone)) w := fun w a n c => run_neq_slice_nil_any w _ _ a n c 0 0 Tryz.underlying28
      cases em with
      | some e0 =>
        obtain ⟨ad, ec, hem, -⟩ := hEm
        subst hem
        obtain ⟨h6, k6, f6⟩ := hJ.k6
        obtain ⟨h7, k7, f7⟩ := hJ.k7
        clear hs5 hsw hJ hLv hxs hok hso HSO hnd hle
        gi_wp2_with fail
        have hT := two_set HJ.out.k6 HJ.out.k7 HJ.out.be HJ.out.lt.1 (.slice none 0 0) (.int .i64 22)
        exact ⟨M1, ⟨rfl, HW.out.trans rfl, hT.1, hT.2.1, hT.2.2, hT.2.2.size⟩, upd_two (Upd.refl HJ.out.fit) ⟨HJ.out.m6.1, HJ.out.m6.2.1⟩ _ _⟩
      | none =>
        have hem : v1 = .slice none 0 0 := hEm
        subst hem
        have HU0 : Hid (Upd M1 M1 Wa (Wa.setCell ⟨w1.heap.size + 1, 0, none⟩ (.slice none 0 0))) := zH (Upd.setCell hJ.fit _ _ hJ.m6.2.2)
        have HJN := zH hJ.nil
        have HLN : Hid (LvAt (Wa.setCell ⟨w1.heap.size + 1, 0, none⟩ (.slice none 0 0)) M1 na now ds) := zH (HLV.out.upd HU0.out)
        obtain ⟨h10, k10, f10⟩ := hJ.k10
        clear hs5 hsw hJ hLv hxs hok hso hnd hle HW
        gi_wp2_with fail
        gi_loopw [14, 35] (fun _ v35 wr => ∃ (j : Nat) (v' : Value) (M2 : Nat → Prop), v35 = .int .i64 j ∧ j ≤ now.length ∧ Hid (RbJ (w.heap.size + 1 + 1) (w1.heap.size + 1) (w1.heap.size + 2) w v' ((sts now).take j) M2 wr) ∧ Hid (LvAt wr M2 na now ds) ∧ Hid (Upd M1 M2 Wa wr)) (fun _ v35 _ => now.length - (intOf v35).toNat)
        case atStart => exact ⟨0, _, M1, rfl, Nat.zero_le _, HJN, HLN, HU0⟩
        case round =>
          obtain ⟨j, v2, M2, rfl, hj, HJ1, HLV1, HU1⟩ := hrel
          obtain ⟨wo, hwo⟩ : ∃ wo, wo = wr := ⟨_, rfl⟩
          subst hwo
          by_cases hlj : j < now.length
          · obtain ⟨bn, on, rfl, hbn, hcn⟩ := (HLV1.out.rd).at (k := j * 3) (by omega)
            obtain ⟨⟨⟨av, ar⟩, dl⟩, haj⟩ : ∃ x, ag now j = x := ⟨_, rfl⟩
            obtain ⟨⟨dA, dC⟩, hdj⟩ : ∃ x, ds j = x := ⟨_, rfl⟩
            have e0 : wo.cell? ⟨bn, on + j * 3, none⟩ = some (.int .i64 av) := by have := hcn (j * 3) (by omega); rw [arrF0, haj] at this; exact this
            have e1 : wo.cell? ⟨bn, on + j * 3 + 1, none⟩ = some (.bool ar) := by have := hcn (j * 3 + 1) (by omega); rw [arrF1, haj] at this; exact this
            have e2 : wo.cell? ⟨bn, on + j * 3 + 1 + 1, none⟩ = some (.slice dA dl.length dC) := by have := hcn (j * 3 + 1 + 1) (by omega); rw [arrF2, haj, hdj] at this; exact this
            have hfold : (sts now).take (j + 1) = (sts now).take j ++ [(av, ar)] := by
              have hl : j < (sts now).length := by unfold sts; rw [List.length_map]; exact hlj
              rw [List.take_succ_eq_append_getElem hl]
              have e : (sts now)[j]'hl = (now[j]'hlj).1 := List.getElem_map _
              rw [e, ← ag_lt hlj, haj]
            have htl : ((sts now).take j).length = j := by unfold sts; rw [List.length_take, List.length_map]; omega
            have HFO := zH hfold
            obtain ⟨Lj, hLj⟩ : ∃ l, (sts now).take j = l := ⟨_, rfl⟩
            rw [hLj] at HJ1 HFO htl
            clear hLj
            obtain ⟨W6, hW6⟩ : ∃ W6, wo.alloc (.cells #[.int .i64 av, .bool ar, .slice dA dl.length dC] 163) = W6 := ⟨_, rfl⟩
            have HJ6 : Hid (RbJ (w.heap.size + 1 + 1) (w1.heap.size + 1) (w1.heap.size + 2) w v2 Lj M2 W6) := by subst hW6; exact zH (HJ1.out.to (bAlloc (bSelf _) _))
            have HU6 : Hid (Upd M1 M2 Wa W6) := by subst hW6; exact zH (HU1.out.trans (Upd.of_below HJ1.out.fit (bAlloc (bSelf _) _)))
            have HLV6 : Hid (LvAt W6 M2 (some ⟨bn, on, none⟩) now ds) := by subst hW6; exact zH (HLV1.out.to (bAlloc (bSelf _) _))
            have HK6 : Hid (Blk W6 wo.heap.size #[.int .i64 av, .bool ar, .slice dA dl.length dC]) := by subst hW6; exact zH (Blk.new _ _ _)
            have hs6 : W6.heap.size = wo.heap.size + 1 := by subst hW6; simp
            obtain ⟨va, vc, hv2⟩ := ownsRow_sl HJ6.out.own
            rw [htl] at hv2
            subst hv2
            have HROW := zH (HJ6.out.own.alloc (.cells #[.int .i64 av, .bool ar] 53))
            rw [htl] at HROW
            have HTL := zH htl
            clear hcn haj hdj hfold htl
            obtain ⟨-, k14, -⟩ := HK6.out
            obtain ⟨-, k10, -⟩ := HJ6.out.k10
            have HNN := zH (Blk.new W6 #[.int .i64 av, .bool ar] 53).news
            have hbs := HJ6.out.be.size
            have hlt6 := HJ6.out.lt
            have hlo := HJ6.out.k10.1
            gi_wp2_with (gi_at_builtin; go_loud (refine wpListIn_app (w1.heap.size + 2) rtSt rfl (.tmp 39) (.tmp 42) rfl _ _ _ rfl HROW.out ⟨wo.heap.size + 1, 0, none⟩ 1 1 [.int .i64 av, .bool ar] rfl rfl (by have := HNN.out; rw [hs6] at this; exact this) (onesS [(av, ar)]) (by unfold maxLen; omega) (by omega) (by simp; omega) ?_; intro v' w7 hown' hgrow _ hwhere; obtain ⟨va', vc', rfl⟩ := ownsRow_sl hown'; have HO := zH hown'; have HG7 := zH hgrow; have HW7 := zH hwhere; clear hown' hgrow hwhere; obtain ⟨h10, k10', f10⟩ := blk_grown (HJ6.out.k10.alloc (.cells #[.int .i64 av, .bool ar] 53)) HG7.out (fun e => by have := (HJ6.out.own.lt _ e).1; omega)))
            go_roundw
            case rel =>
              have HAP := HJ6.out.app (.cells #[.int .i64 av, .bool ar] 53) (s := (av, ar)) (by rw [HTL.out]; exact HO.out) HG7.out (HW7.out.imp id (fun h => h.trans (by rw [World.size_alloc])))
              exact ⟨j + 1, _, _, congrArg (Value.int .i64) (by omega), by omega, zH (by rw [HFO.out]; exact HAP.1), zH (HLV6.out.upd HAP.2), zH (HU6.out.trans HAP.2)⟩
            case measure => simp [intOf]; omega
          · obtain rfl : j = now.length := by omega
            have hts : (sts now).take now.length = sts now := List.take_of_length_le (by unfold sts; rw [List.length_map]; exact Nat.le_refl _)
            rw [hts] at HJ1
            gi_wp2_with fail
            refine ⟨M2, ⟨_, _, fun rest' hr => HSO.out (by first | trivial | rfl) rest' hr, HLK.out.nd, ?_, HJ1.out⟩, HU1.out⟩
            have := hlen
            unfold sts; rw [List.length_map]; exact hlen
    case hdone =>
      intro D M1 Wd hD hMD hI hdef
      obtain ⟨v, L, hso, hnd, hle, hJ⟩ := hI
      have hfin : lstA xs [] = some L := by rw [hso [] (by simp)]; rfl
      obtain ⟨va, vc, hv⟩ := ownsRow_sl hJ.own
      subst hv
      obtain ⟨nL, hnL⟩ : ∃ n, L.length = n := ⟨_, rfl⟩
      have HNL := zH hnL
      have HJ := zH hJ
      have HD := zH hdef
      have HMD := zH hMD
      have hDn : w1.heap.size + 5 ≤ D := by omega
      have HSRT := zH (oSort_any L (.slice va L.length vc) (w1.heap.size + 2) Wd hJ.own (by omega) hnd)
      rw [hnL] at HJ HSRT
      have HFIN := zH hfin
      obtain ⟨-, k10, -⟩ := HJ.out.k10
      clear hs5 hsw hJ hdef hfin hso hnd hle hMD hnL
      gi_wp2_with fail
      clear k10
      refine ⟨trivial, (callsIn_wide.2 HSRT.out).mono ?_⟩
      rintro e w8 ⟨rfl, l', hs', hm', hl', hown', hg'⟩
      have hrr : rr = some l' := HRS.out L HFIN.out l' hs' hm'
      have hro : ro = l' := by rw [HA.out, hrr]; rfl
      have hre : re = 0 := by rw [HE.out, hrr]; rfl
      subst hro hre
      have hlt := HJ.out.lt
      have hne : ∀ b, b < w1.heap.size + 2 → (Value.slice va nL vc).ownBlock ≠ some b := fun b hb e => by have := (HJ.out.own.lt b e).1; omega
      have hsw := HSW.out
      have K6 := zH (blk_grown HJ.out.k6 hg' (hne _ (by omega)))
      have K7 := zH (blk_grown HJ.out.k7 hg' (hne _ (by omega)))
      have K10 := zH (blk_grown HJ.out.k10 hg' (hne _ (by omega)))
      have HB8 : Hid (Below w.heap.size w w8) := zH (HJ.out.be.grown hg' HJ.out.be.size (fun k e => by have := (HJ.out.own.lt k e).1; omega))
      have HD8 : Hid (w8.heap[D]? = some (.deferred (some []))) := zH ((hg'.block D (Array.getElem?_eq_some_iff.1 HD.out).1 (fun e => HMD.out (HJ.out.mv D e.symm))).trans HD.out)
      have HO8 := zH hown'
      have HL8 := zH hl'
      obtain ⟨h6, k6, f6⟩ := K6.out
      obtain ⟨h7, k7, f7⟩ := K7.out
      obtain ⟨h10, k10, f10⟩ := K10.out
      clear hs' hm' hl' hown' hg' hne hrr
      gi_wp2_with fail
      obtain ⟨F6, F7, hbb⟩ := two_set K6.out K7.out HB8.out (by omega) (.slice va nL vc) (.int .i64 0)
      have hgD : ((w8.setCell ⟨w.heap.size + 1 + 1, 0, none⟩ (.slice va nL vc)).setCell ⟨w.heap.size + 1 + 1 + 1, 0, none⟩ (.int .i64 0)).heap[D]? = some (.deferred (some [])) := by
        rw [Below.heap_setCell _ _ _ _ (by simp; omega), Below.heap_setCell _ _ _ _ (by simp; omega)]
        exact HD8.out
      have hof := owns_set (owns_set HO8.out (p := ⟨w.heap.size + 1 + 1, 0, none⟩) (x := .slice va nL vc) (by simp; omega)) (p := ⟨w.heap.size + 1 + 1 + 1, 0, none⟩) (x := .int .i64 0) (by simp; omega)
      obtain ⟨W9, hW9⟩ : ∃ W, ((w8.setCell ⟨w.heap.size + 1 + 1, 0, none⟩ (.slice va nL vc)).setCell ⟨w.heap.size + 1 + 1 + 1, 0, none⟩ (.int .i64 0)) = W := ⟨_, rfl⟩
      rw [hW9] at F6 F7 hbb hgD hof ⊢
      clear hW9 k6 k7 k10 f6 f7 f10
      gi_wp2_with fail
      refine ⟨by simp, .inl ⟨_, _, rfl, run_takeDeferred hgD, ?_⟩⟩
      have G6 := (blk_grown F6 (grownBy_putObj' W9 D (.deferred none)) (fun e => by injection e with e; omega)).2.1 0
      have G7 := (blk_grown F7 (grownBy_putObj' W9 D (.deferred none)) (fun e => by injection e with e; omega)).2.1 0
      have hbf := hbb.grown (grownBy_putObj' W9 D (.deferred none)) hbb.size (fun k e => by cases e; omega)
      have hrow2 := ownsRow_putObj hof (.deferred none) hgD rfl
      rw [← HL8.out] at hrow2
      obtain ⟨a', c', hv, hcp, hrdr, hfr⟩ := Reads.of_row (f := osts ro) hrow2 (fun i hi => scells_get _ i hi)
      clear F6 F7
      refine ⟨.tuple #[.slice va nL vc, .int .i64 0], ?_, (HPO.out _ _).2 ⟨a', c', by rw [← HL8.out, hv], hcp, hrdr, hbf, fun q hq => by have := hfr q hq; omega⟩⟩
      simp [results, Tryz.results32, go_sem, G6, G7]
    case hstop =>
      rintro D c' pre x rest Wd hD hxs ⟨rfl, hX⟩ hdef
      have HX := zH hX
      have HD := zH hdef
      have hDn : w1.heap.size + 5 ≤ D := by omega
      have hDw : w.heap.size + 1 + 1 + 1 + 1 ≤ D := by omega
      clear hs5 hsw hX hdef
      gi_wp2_with fail
      refine ⟨by simp, .inl ⟨_, _, rfl, run_takeDeferred HD.out, ?_⟩⟩
      obtain ⟨hno, k1, k2, hb, hs⟩ := HX.out.putObj (.deferred none) (l := D) (by omega) (by omega)
      have G6 := k1.2.1 0
      have G7 := k2.2.1 0
      have hrr := HRN.out hno
      have hro : ro = [] := by rw [HA.out, hrr]; rfl
      have hre : re = 22 := by rw [HE.out, hrr]; rfl
      subst hro hre
      refine ⟨.tuple #[.slice none 0 0, .int .i64 22], ?_, (HPO.out _ _).2 ⟨none, 0, rfl, Nat.le_refl _, .inl rfl, hb, fun q hq => by cases hq⟩⟩
      simp [results, Tryz.results32, go_sem, G6, G7]
  · rw [if_neg h0] at HA HE
    have h0' : (opCE p s.1 c != 0) = true := by simpa using h0
    obtain ⟨oe, hoe⟩ : ∃ e, opCE p s.1 c = e := ⟨_, rfl⟩
    rw [hoe] at HE HO h0'
    obtain rfl : re = oe := HE.out
    obtain rfl : ro = [] := HA.out
    clear h0 hoe hr hrc hlen hlc HA HE HRS HRN
    obtain ⟨s1, sr⟩ := s
    dsimp only at HO ⊢
    go_enter Tryz.func32, Tryz.ntmps32
    go_wp2_with fail
    refine (HO.out _ (bAlloc (bAlloc (bAlloc (bAlloc (bSelf w) _) _) _) _)).mono ?_
    intro e w1 hpost
    obtain ⟨al, cl, rfl, hcl, hrd, hb, hfr⟩ := hpost.ex
    have K6 : Hid (Blk w1 (w.heap.size + 1 + 1) #[.slice none 0 0]) := zH (((Blk.newAt _ _ _ (by simp)).alloc _).to hb)
    have K7 : Hid (Blk w1 (w.heap.size + 1 + 1 + 1) #[.int .i64 0]) := zH ((Blk.newAt _ _ _ (by simp)).to hb)
    have HB := zH (bThen (bAlloc (bAlloc (bAlloc (bAlloc (bSelf w) _) _) _) _) hb)
    clear hb hrd hpost hfr HO
    obtain ⟨W, hW⟩ : ∃ W, w1.alloc (.cells (plL p a cap al cl) 145) = W := ⟨_, rfl⟩
    replace K6 : Hid (Blk W (w.heap.size + 1 + 1) #[.slice none 0 0]) := by subst hW; exact zH (K6.out.alloc _)
    replace K7 : Hid (Blk W (w.heap.size + 1 + 1 + 1) #[.int .i64 0]) := by subst hW; exact zH (K7.out.alloc _)
    replace HB : Hid (Below w.heap.size w W) := by subst hW; exact zH (bAlloc HB.out _)
    subst hW
    obtain ⟨h6, k6, f6⟩ := K6.out
    obtain ⟨h7, k7, f7⟩ := K7.out
    go_wp2_with fail
    obtain ⟨F6, F7, hbb⟩ := two_set K6.out K7.out HB.out (by omega) (.slice none 0 0) (.int .i64 re)
    have G6 := F6.2.1 0
    have G7 := F7.2.1 0
    clear F6 F7 k6 k7 f6 f7
    refine bodyPost_ret (v := .tuple #[.slice none 0 0, .int .i64 re]) ?_ rfl ((HPO.out _ _).2 ⟨none, 0, rfl, Nat.le_refl _, .inl rfl, hbb, fun q hq => by cases hq⟩)
    simp [results, Tryz.results32, go_sem, G6, G7]
end
end Go.Proofs.YtbpcapcgbnbknaaGreat
