/-
  Texts of this claim, in their build order: OM10.
-/
import Derived.Test.YtbpcapcgbnbknaaGreatOne37
import Derived.Test.YtbpcapcgbnbknaaGreatOne29
import Derived.BigRegionIn
import Derived.Test.YtbpcapcgbnbknaaGreatOne0

namespace Go.Proofs.YtbpcapcgbnbknaaGreat
section
open Go.RowKit
attribute [local go_sem] Oper.semAt_some

/-- LowestIn's answer: tick and volume. -/
def lowO (p : Plt) (s : OSt) (c : List (Int × Int)) : Option (Int × Int) := lowF 0 (0, s.1) (tks p c [(s, [])])
def lwtE (p : Plt) (s : OSt) (c : List (Int × Int)) : Int := if opCE p s.1 c = 0 then (if (lowO p s c).isSome then 0 else 22) else opCE p s.1 c
def lwtA (p : Plt) (s : OSt) (c : List (Int × Int)) : Int × (Int × Int) := if opCE p s.1 c = 0 then (match lowO p s c with | some x => (x.1, fr (prQ p.pts x.2).1 (prQ p.pts x.2).2) | none => (0, (0, 0))) else (0, (0, 0))
theorem Blk.c3 {w : World} {b : Nat} {cs : Array Value} (h : Blk w b cs) : ∀ (o1 o2 o3 : Obj) (o : Nat), (((w.alloc o1).alloc o2).alloc o3).cell? ⟨b, o, none⟩ = cs[o]? := fun o1 o2 o3 o => (((h.alloc o1).alloc o2).alloc o3).2.1 o

/-- The loop of LowestIn: the tick, and the lowest volume so far with its tick. -/
structure LwJ (p : Plt) (a al : Option Addr) (cap cl b6 b9 b13 : Nat) (w : World) (tick : Int) (st : Int × Int) (M1 : Nat → Prop) (W : World) : Prop where
  bd : 0 ≤ st.2 ∧ st.2 ≤ capV p.pts
  k6 : Blk W b6 #[.int .i64 0]
  k7 : Blk W (b6 + 1) #[.int .i64 0, .int .i64 0]
  k8 : Blk W (b6 + 1 + 1) #[.int .i64 0]
  k9 : Blk W b9 (plL p a cap al cl)
  k11 : Blk W (b9 + 1) #[.int .i64 st.1]
  k12 : Blk W (b9 + 1 + 1) #[.int .i64 tick]
  k13 : Blk W b13 #[.int .i64 (prQ p.pts st.2).1, .int .i64 (prQ p.pts st.2).2]
  rl : Reads W al (p.pts.length * 2) (fracs p.pts)
  al : ∀ q, al = some q → b6 + 1 + 1 < q.block ∧ q.block < b9
  be : Below w.heap.size w W
  lt : w.heap.size ≤ b6 ∧ b6 + 1 + 1 < b9 ∧ b9 + 1 + 1 < b13
  m6 : M1 b6 ∧ M1 (b6 + 1) ∧ M1 (b6 + 1 + 1)
  m11 : M1 (b9 + 1) ∧ M1 (b9 + 1 + 1) ∧ M1 b13
  fit : ∀ k, M1 k → k < W.heap.size
theorem LwJ.to {p : Plt} {a al : Option Addr} {cap cl b6 b9 b13 : Nat} {w : World} {tick : Int} {st : Int × Int} {M1 : Nat → Prop} {W W' : World} (h : LwJ p a al cap cl b6 b9 b13 w tick st M1 W) (hb : Below W.heap.size W W') : LwJ p a al cap cl b6 b9 b13 w tick st M1 W' :=
  ⟨h.bd, h.k6.to hb, h.k7.to hb, h.k8.to hb, h.k9.to hb, h.k11.to hb, h.k12.to hb, h.k13.to hb, h.rl.to hb, h.al, bThen h.be hb, h.lt, h.m6, h.m11, fun k hk => Nat.lt_of_lt_of_le (h.fit k hk) hb.size⟩
theorem LwJ.agree {p : Plt} {a al : Option Addr} {cap cl b6 b9 b13 : Nat} {w : World} {tick : Int} {st : Int × Int} {M1 : Nat → Prop} {B : Nat} {W W' : World} (h : LwJ p a al cap cl b6 b9 b13 w tick st M1 W) (hag : Agree B M1 W W') (hB : b13 < B) : LwJ p a al cap cl b6 b9 b13 w tick st M1 W' := by
  obtain ⟨l1, l2, l3⟩ := h.lt
  have hb := hag.below
  refine ⟨h.bd, h.k6.below hb (by omega), h.k7.below hb (by omega), h.k8.below hb (by omega), h.k9.below hb (by omega), h.k11.below hb (by omega), h.k12.below hb (by omega), h.k13.below hb (by omega), ?_, h.al, h.be.trans (hb.mono (by omega)), h.lt, h.m6, h.m11, fun k hk => Nat.lt_of_lt_of_le (h.fit k hk) hag.size⟩
  rcases h.rl with hr | ⟨b, off, ha, hlt, hc⟩
  · exact .inl hr
  · have := (h.al _ ha).2
    dsimp only at this
    exact .inr ⟨b, off, ha, Nat.lt_of_lt_of_le hlt hag.size, fun i hi => (hb.cell (p := ⟨b, off + i, none⟩) (show b < B by omega)).trans (hc i hi)⟩
theorem LwJ.put {p : Plt} {a al : Option Addr} {cap cl b6 b9 b13 : Nat} {w : World} {tick : Int} {st : Int × Int} {M1 : Nat → Prop} {W : World} (h : LwJ p a al cap cl b6 b9 b13 w tick st M1 W) {v : Int} (hv : 0 ≤ v ∧ v ≤ capV p.pts) :
    LwJ p a al cap cl b6 b9 b13 w tick (tick, v) M1 (((W.setCell ⟨b9 + 1, 0, none⟩ (.int .i64 tick)).setCell ⟨b13, 0, none⟩ (.int .i64 (prQ p.pts v).1)).setCell ⟨b13, 1, none⟩ (.int .i64 (prQ p.pts v).2)) := by
  obtain ⟨l1, l2, l3⟩ := h.lt
  have key : ∀ {b : Nat} {cs : Array Value}, Blk W b cs → b ≠ b9 + 1 → b ≠ b13 → Blk (((W.setCell ⟨b9 + 1, 0, none⟩ (.int .i64 tick)).setCell ⟨b13, 0, none⟩ (.int .i64 (prQ p.pts v).1)).setCell ⟨b13, 1, none⟩ (.int .i64 (prQ p.pts v).2)) b cs := fun hk h1 h2 =>
    ((hk.other (p := ⟨b9 + 1, 0, none⟩) (fun e => h1 e.symm) _).other (p := ⟨b13, 0, none⟩) (fun e => h2 e.symm) _).other (p := ⟨b13, 1, none⟩) (fun e => h2 e.symm) _
  have hne : ∀ b off, al = some ⟨b, off, none⟩ → b ≠ b9 + 1 ∧ b ≠ b13 := fun b off e => by have := h.al _ e; dsimp only at this; omega
  refine ⟨hv, key h.k6 (by omega) (by omega), key h.k7 (by omega) (by omega), key h.k8 (by omega) (by omega), key h.k9 (by omega) (by omega), ?_, key h.k12 (by omega) (by omega), ?_, ?_, h.al, ?_, h.lt, h.m6, h.m11, fun k hk => by simpa [World.setCell] using h.fit k hk⟩
  · exact ((h.k11.set 0 (.int .i64 tick)).other (p := ⟨b13, 0, none⟩) (show b13 ≠ b9 + 1 by omega) _).other (p := ⟨b13, 1, none⟩) (show b13 ≠ b9 + 1 by omega) _
  · exact ((h.k13.other (p := ⟨b9 + 1, 0, none⟩) (show b9 + 1 ≠ b13 by omega) (.int .i64 tick)).set 0 (.int .i64 (prQ p.pts v).1)).set 1 (.int .i64 (prQ p.pts v).2)
  · exact ((h.rl.other ⟨b9 + 1, 0, none⟩ _ (fun b off e => (hne b off e).1)).other ⟨b13, 0, none⟩ _ (fun b off e => (hne b off e).2)).other ⟨b13, 1, none⟩ _ (fun b off e => (hne b off e).2)
  · exact ((h.be.setCell (p := ⟨b9 + 1, 0, none⟩) (show w.heap.size ≤ b9 + 1 by omega) _).setCell (p := ⟨b13, 0, none⟩) (show w.heap.size ≤ b13 by omega) _).setCell (p := ⟨b13, 1, none⟩) (show w.heap.size ≤ b13 by omega) _
theorem LwJ.tick {p : Plt} {a al : Option Addr} {cap cl b6 b9 b13 : Nat} {w : World} {tick : Int} {st : Int × Int} {M1 : Nat → Prop} {W : World} (h : LwJ p a al cap cl b6 b9 b13 w tick st M1 W) (t' : Int) :
    LwJ p a al cap cl b6 b9 b13 w t' st M1 (W.setCell ⟨b9 + 1 + 1, 0, none⟩ (.int .i64 t')) := by
  obtain ⟨l1, l2, l3⟩ := h.lt
  have key : ∀ {b : Nat} {cs : Array Value}, Blk W b cs → b ≠ b9 + 1 + 1 → Blk (W.setCell ⟨b9 + 1 + 1, 0, none⟩ (.int .i64 t')) b cs := fun hk h1 => hk.other (p := ⟨b9 + 1 + 1, 0, none⟩) (fun e => h1 e.symm) _
  exact ⟨h.bd, key h.k6 (by omega), key h.k7 (by omega), key h.k8 (by omega), key h.k9 (by omega), key h.k11 (by omega), h.k12.set 0 _, key h.k13 (by omega), h.rl.other ⟨b9 + 1 + 1, 0, none⟩ _ (fun b off e => by have := h.al _ e; dsimp only at this ⊢; omega), h.al,
    h.be.setCell (p := ⟨b9 + 1 + 1, 0, none⟩) (show w.heap.size ≤ b9 + 1 + 1 by omega) _, h.lt, h.m6, h.m11, fun k hk => by simpa [World.setCell] using h.fit k hk⟩
theorem three_set {W w : World} {b6 : Nat} {x6 x7 x7' x8 : Value} (k6 : Blk W b6 #[x6]) (k7 : Blk W (b6 + 1) #[x7, x7']) (k8 : Blk W (b6 + 1 + 1) #[x8]) (hb : Below w.heap.size w W) (hw : w.heap.size ≤ b6) (v6 v7 v7' v8 : Value) :
    Blk ((((W.setCell ⟨b6, 0, none⟩ v6).setCell ⟨b6 + 1, 0, none⟩ v7).setCell ⟨b6 + 1, 1, none⟩ v7').setCell ⟨b6 + 1 + 1, 0, none⟩ v8) b6 #[v6] ∧
    Blk ((((W.setCell ⟨b6, 0, none⟩ v6).setCell ⟨b6 + 1, 0, none⟩ v7).setCell ⟨b6 + 1, 1, none⟩ v7').setCell ⟨b6 + 1 + 1, 0, none⟩ v8) (b6 + 1) #[v7, v7'] ∧
    Blk ((((W.setCell ⟨b6, 0, none⟩ v6).setCell ⟨b6 + 1, 0, none⟩ v7).setCell ⟨b6 + 1, 1, none⟩ v7').setCell ⟨b6 + 1 + 1, 0, none⟩ v8) (b6 + 1 + 1) #[v8] ∧
    Below w.heap.size w ((((W.setCell ⟨b6, 0, none⟩ v6).setCell ⟨b6 + 1, 0, none⟩ v7).setCell ⟨b6 + 1, 1, none⟩ v7').setCell ⟨b6 + 1 + 1, 0, none⟩ v8) := by
  refine ⟨?_, ?_, ?_, ?_⟩
  · exact (((k6.set 0 v6).other (p := ⟨b6 + 1, 0, none⟩) (show b6 + 1 ≠ b6 by omega) _).other (p := ⟨b6 + 1, 1, none⟩) (show b6 + 1 ≠ b6 by omega) _).other (p := ⟨b6 + 1 + 1, 0, none⟩) (show b6 + 1 + 1 ≠ b6 by omega) _
  · exact (((k7.other (p := ⟨b6, 0, none⟩) (show b6 ≠ b6 + 1 by omega) v6).set 0 v7).set 1 v7').other (p := ⟨b6 + 1 + 1, 0, none⟩) (show b6 + 1 + 1 ≠ b6 + 1 by omega) _
  · exact (((k8.other (p := ⟨b6, 0, none⟩) (show b6 ≠ b6 + 1 + 1 by omega) v6).other (p := ⟨b6 + 1, 0, none⟩) (show b6 + 1 ≠ b6 + 1 + 1 by omega) v7).other (p := ⟨b6 + 1, 1, none⟩) (show b6 + 1 ≠ b6 + 1 + 1 by omega) v7').set 0 v8
  · exact (((hb.setCell (p := ⟨b6, 0, none⟩) hw _).setCell (p := ⟨b6 + 1, 0, none⟩) (show w.heap.size ≤ b6 + 1 by omega) _).setCell (p := ⟨b6 + 1, 1, none⟩) (show w.heap.size ≤ b6 + 1 by omega) _).setCell (p := ⟨b6 + 1 + 1, 0, none⟩) (show w.heap.size ≤ b6 + 1 + 1 by omega) _
theorem upd_three {W Wa : World} {M1 : Nat → Prop} {b6 : Nat} (hU : Upd M1 M1 Wa W) (m : M1 b6 ∧ M1 (b6 + 1) ∧ M1 (b6 + 1 + 1)) (v6 v7 v7' v8 : Value) : Upd M1 M1 Wa ((((W.setCell ⟨b6, 0, none⟩ v6).setCell ⟨b6 + 1, 0, none⟩ v7).setCell ⟨b6 + 1, 1, none⟩ v7').setCell ⟨b6 + 1 + 1, 0, none⟩ v8) := by
  have h1 := hU.trans (Upd.setCell hU.fit ⟨b6, 0, none⟩ v6 m.1)
  have h2 := h1.trans (Upd.setCell h1.fit ⟨b6 + 1, 0, none⟩ v7 m.2.1)
  have h3 := h2.trans (Upd.setCell h2.fit ⟨b6 + 1, 1, none⟩ v7' m.2.1)
  exact h3.trans (Upd.setCell h3.fit ⟨b6 + 1 + 1, 0, none⟩ v8 m.2.2)
theorem tks_len (p : Plt) : ∀ (rs : List (Int × Int)) (now : List (OSt × List Int)), (tks p rs now).length ≤ rs.length + 1
  | [], now => by unfold tks; simp
  | r :: rs, now => by
    rw [tks_eq, List.length_cons, List.length_cons]
    cases hem : (tkL p r now).emp with
    | some e0 => rw [tksT_some hem]; simp
    | none => rw [tksT_none hem]; have := tks_len p rs (tkL p r now).aft; omega
/-- What has been yielded so far. -/
def LwI (p : Plt) (s1 : Int) (xs : List TkI) (a al : Option Addr) (cap cl b6 b9 b13 : Nat) (w : World) (pre : List TkI) (M1 : Nat → Prop) (W : World) : Prop :=
  ∃ st : Int × Int, (∀ rest, xs = pre ++ rest → lowF 0 (0, s1) xs = lowF (pre.length : Int) st rest) ∧ LwJ p a al cap cl b6 b9 b13 w (pre.length : Int) st M1 W
/-- Where some demands empty the plant. -/
def LwX (s1 : Int) (xs : List TkI) (b6 : Nat) (w W : World) : Prop :=
  lowF 0 (0, s1) xs = none ∧ Blk W b6 #[.int .i64 0] ∧ Blk W (b6 + 1) #[.int .i64 0, .int .i64 0] ∧ Blk W (b6 + 1 + 1) #[.int .i64 22] ∧ Below w.heap.size w W ∧ w.heap.size ≤ W.heap.size
theorem LwX.putObj {s1 : Int} {xs : List TkI} {b6 : Nat} {w W : World} (h : LwX s1 xs b6 w W) {l : Nat} (o : Obj) (h1 : b6 + 1 + 1 < l) (h2 : w.heap.size ≤ l) : LwX s1 xs b6 w (W.putObj l o) := by
  obtain ⟨e, k1, k2, k3, hb, hs⟩ := h
  exact ⟨e, blk_grown k1 (grownBy_putObj' W l o) (fun e => by injection e with e; omega), blk_grown k2 (grownBy_putObj' W l o) (fun e => by injection e with e; omega), blk_grown k3 (grownBy_putObj' W l o) (fun e => by injection e with e; omega), hb.grown (grownBy_putObj' W l o) hs (fun k e => by cases e; exact h2), by rw [putObj_size']; exact hs⟩

set_option maxHeartbeats 12800000 in
set_option maxRecDepth 100000 in
theorem LowestIn_any (p : Plt) (s : OSt) (c : List (Int × Int)) (a ac : Option Addr) (cap cc : Nat) (w : World) (hlen : p.pts.length ≤ 1000) (hlc : c.length ≤ maxLen) (hrc : Reads w ac (c.length * 2) (fracs c)) (hr : Reads w a (p.pts.length * 2) (fracs p.pts)) :
    Calls Tryz.prog 33 #[.agg (plC p a cap), .agg #[.int .i64 s.1, .bool s.2], .slice ac c.length cc] w fun e w' => e = .returned (.tuple #[.int .i64 (lwtA p s c).1, .agg #[.int .i64 (lwtA p s c).2.1, .int .i64 (lwtA p s c).2.2], .int .i64 (lwtE p s c)]) ∧ Below w.heap.size w w' := by
  have HO := zH (fun W (hb : Below w.heap.size w W) => openClass_any p s c a ac cap cc W hlen hlc (hrc.to hb) (hr.to hb))
  have HA : Hid (lwtA p s c = if opCE p s.1 c = 0 then (match lowO p s c with | some x => (x.1, fr (prQ p.pts x.2).1 (prQ p.pts x.2).2) | none => (0, (0, 0))) else (0, (0, 0))) := zH rfl
  have HE : Hid (lwtE p s c = if opCE p s.1 c = 0 then (if (lowO p s c).isSome then 0 else 22) else opCE p s.1 c) := zH rfl
  obtain ⟨⟨ra, rq, rd⟩, hra⟩ : ∃ e, lwtA p s c = e := ⟨_, rfl⟩
  obtain ⟨re, hre⟩ : ∃ e, lwtE p s c = e := ⟨_, rfl⟩
  rw [hra] at HA ⊢
  rw [hre] at HE ⊢
  clear hra hre
  by_cases h0 : opCE p s.1 c = 0
  · obtain ⟨hp, hs, hcl⟩ := opCE_ok h0
    rw [if_pos h0] at HA HE
    rw [h0] at HO
    have HT := zH (fun al cap' cl bs bc bp W hF => ticks1_in 4 p s c a al ac cap' cl cc bs bc bp W hp hs hcl hF)
    have HRC := zH hrc
    have HTK := zH (fun al cl W => ticks_any p s a al ac cap cl c.length cc W)
    have HPR := zH (fun al cl x W (hx : 0 ≤ x ∧ x ≤ capV p.pts) hrl => pressure_any p x a al cap cl W (OnOk.of_pts hp.pts hx.1 hx.2) hrl)
    have HPR0 := zH (fun al cl W hrl => pressure_any p s.1 a al cap cl W (OnOk.of_pts hp.pts hs.1 hs.2) hrl)
    have HP := zH hp
    have HS := zH hs
    obtain ⟨xs, hxs⟩ : ∃ xs, tks p c [(s, [])] = xs := ⟨_, rfl⟩
    have HXS := zH hxs
    have HCN := zH hcl.1
    have HLO : Hid (lowO p s c = lowF 0 (0, s.1) xs) := zH (by rw [← hxs]; rfl)
    rw [hxs] at HT
    rw [HLO.out] at HA HE
    clear hp hs hcl h0 hrc hr hxs hlen hlc
    obtain ⟨s1, sr⟩ := s
    dsimp only at HTK HO HPR0 HA HE ⊢
    refine (callsIn_wide (n := 5)).1 ?_
    refine callsIn_of_wp_marks Tryz.func33 rfl trivial ?_ rfl
    simp only [Tryz.ntmps33, List.size_toArray, List.length_cons, List.length_nil, Nat.reduceAdd, Nat.reduceSub, Array.replicate_succ, Array.replicate_zero, List.push_toArray, List.append_toArray, List.nil_append, List.cons_append]
    gi_wp2_with fail
    refine ⟨trivial, (callsIn_wide.2 (HO.out _ (bAlloc (bAlloc (bAlloc (bAlloc (bAlloc (bSelf w) _) _) _) _) _))).mono ?_⟩
    intro e w1 hpost
    obtain ⟨al, cl, rfl, hcl, hrd, hb, hfr⟩ := hpost.ex
    have K4 : Hid (Blk w1 (w.heap.size + 1) #[.int .i64 s1, .bool sr]) := zH (((((Blk.newAt _ _ _ (by simp)).alloc _).alloc _).alloc _).to hb)
    have K6 : Hid (Blk w1 (w.heap.size + 1 + 1) #[.int .i64 0]) := zH ((((Blk.newAt _ _ _ (by simp)).alloc _).alloc _).to hb)
    have K7 : Hid (Blk w1 (w.heap.size + 1 + 1 + 1) #[.int .i64 0, .int .i64 0]) := zH (((Blk.newAt _ _ _ (by simp)).alloc _).to hb)
    have K8 : Hid (Blk w1 (w.heap.size + 1 + 1 + 1 + 1) #[.int .i64 0]) := zH ((Blk.newAt _ _ _ (by simp)).to hb)
    have HB := zH (bThen (bAlloc (bAlloc (bAlloc (bAlloc (bAlloc (bSelf w) _) _) _) _) _) hb)
    have HRD := zH hrd
    have hsw : w.heap.size + 1 + 1 + 1 + 1 + 1 ≤ w1.heap.size := by have := hb.size; simpa using this
    have HSW := zH hsw
    have HAL : Hid (∀ q, al = some q → w.heap.size + 1 + 1 + 1 + 1 < q.block ∧ q.block < w1.heap.size) := zH (fun q hq => by
      have h1 := hfr q hq
      simp only [World.size_alloc] at h1
      have h2 := HP.out.pts.two
      obtain ⟨b', off', e', h, -⟩ := hrd.at (k := 0) (by omega)
      rw [hq] at e'; injection e' with e'; subst e'
      exact ⟨by omega, h⟩)
    clear hb hrd hpost hfr HO hsw
    have k1 := K4.out.c1
    have k2 := K4.out.c2
    have k3 := K4.out.c3
    gi_wp2_with fail
    clear k1 k2 k3
    obtain ⟨W2, hW2⟩ : ∃ W2, (((w1.alloc (.cells (plL p a cap al cl) 145)).alloc (.cells #[.int .i64 0] 3)).alloc (.cells #[.int .i64 0] 3)) = W2 := ⟨_, rfl⟩
    rw [hW2]
    have hb2 : Below w1.heap.size w1 W2 := by subst hW2; exact bAlloc (bAlloc (bAlloc (bSelf w1) _) _) _
    have K9 : Hid (Blk W2 w1.heap.size (plL p a cap al cl)) := by subst hW2; exact zH (((Blk.new _ _ _).alloc _).alloc _)
    have K11 : Hid (Blk W2 (w1.heap.size + 1) #[.int .i64 0]) := by subst hW2; exact zH ((Blk.newAt _ _ _ (by simp)).alloc _)
    have K12 : Hid (Blk W2 (w1.heap.size + 1 + 1) #[.int .i64 0]) := by subst hW2; exact zH (Blk.newAt _ _ _ (by simp))
    have hs2 : W2.heap.size = w1.heap.size + 1 + 1 + 1 := by subst hW2; simp
    clear hW2
    refine ⟨trivial, (callsIn_wide.2 (HPR0.out al cl W2 (HRD.out.to hb2))).mono ?_⟩
    rintro e w3 ⟨rfl, hb3⟩
    replace hb2 : Below w1.heap.size w1 w3 := bThen hb2 hb3
    replace K4 := zH (K4.out.to hb2)
    replace K6 := zH (K6.out.to hb2)
    replace K7 := zH (K7.out.to hb2)
    replace K8 := zH (K8.out.to hb2)
    replace K9 := zH (K9.out.to hb3)
    replace K11 := zH (K11.out.to hb3)
    replace K12 := zH (K12.out.to hb3)
    replace HRD := zH (HRD.out.to hb2)
    replace HB := zH (bThen HB.out hb2)
    have HS3 : Hid (w1.heap.size + 1 + 1 < w3.heap.size) := zH (by have := hb3.size; omega)
    clear hb2 hb3 hs2 HPR0
    have k4 := K4.out.c1
    have k9 := K9.out.c1
    gi_wp2_with fail
    clear k4 k9
    obtain ⟨W4, hW4⟩ : ∃ W4, w3.alloc (.cells #[.int .i64 (prQ p.pts s1).1, .int .i64 (prQ p.pts s1).2] 167) = W4 := ⟨_, rfl⟩
    rw [hW4]
    have K13 : Hid (Blk W4 w3.heap.size #[.int .i64 (prQ p.pts s1).1, .int .i64 (prQ p.pts s1).2]) := by subst hW4; exact zH (Blk.new _ _ _)
    have hb4 : Below w3.heap.size w3 W4 := by subst hW4; exact bAlloc (bSelf w3) _
    have hs4 : W4.heap.size = w3.heap.size + 1 := by subst hW4; simp
    clear hW4
    refine ⟨trivial, (callsIn_wide.2 (HTK.out al cl W4)).mono ?_⟩
    rintro e w' ⟨rfl, rfl⟩
    obtain ⟨W5, hW5⟩ : ∃ W5, ((W4.alloc (.cells (plL p a cap al cl) 145)).alloc (.cells #[.int .i64 s1, .bool sr] 53)).alloc (.cells #[.slice ac c.length cc] 54) = W5 := ⟨_, rfl⟩
    rw [hW5]
    have hb5 : Below W4.heap.size W4 W5 := by subst hW5; exact bAlloc (bAlloc (bAlloc (bSelf W4) _) _) _
    have hs5 : W5.heap.size = w3.heap.size + 4 := by subst hW5; simp [hs4]
    have hb35 : Below w3.heap.size w3 W5 := bThen hb4 hb5
    have HB5 : Hid (Below w.heap.size w W5) := zH (bThen HB.out hb35)
    have HF : Hid (TkF p (s1, sr) c a al ac cap cl cc (W4.heap.size + 1) (W4.heap.size + 1 + 1) W4.heap.size W5) := by
      have h1 := HRD.out.to hb35
      subst hW5
      exact zH ⟨(Blk.newAt _ _ _ (by simp)).alloc _, Blk.newAt _ _ _ (by simp), ((Blk.new _ _ _).alloc _).alloc _, h1, HRC.out.to HB5.out⟩
    have hsw := HSW.out
    have hs3 := HS3.out
    have HJ0 : Hid (LwJ p a al cap cl (w.heap.size + 1 + 1) w1.heap.size w3.heap.size w 0 (0, s1) (fun k => k = w.heap.size + 1 + 1 ∨ k = w.heap.size + 1 + 1 + 1 ∨ k = w.heap.size + 1 + 1 + 1 + 1 ∨ k = w1.heap.size + 1 ∨ k = w1.heap.size + 1 + 1 ∨ k = w3.heap.size) W5) := zH
      ⟨HS.out, K6.out.to hb35, K7.out.to hb35, K8.out.to hb35, K9.out.to hb35, K11.out.to hb35, K12.out.to hb35, K13.out.to hb5, HRD.out.to hb35, HAL.out, HB5.out, by omega, by simp, by simp, fun k hk => by omega⟩
    have HSQ := HT.out _ _ _ _ _ _ W5 HF.out
    have HRD5 : Hid (∀ k, TkR p c al ac (W4.heap.size + 1) (W4.heap.size + 1 + 1) W4.heap.size k → k < W5.heap.size) := zH (fun k hk => HF.out.lt hk)
    have HRM : Hid (∀ k, (k = w.heap.size + 1 + 1 ∨ k = w.heap.size + 1 + 1 + 1 ∨ k = w.heap.size + 1 + 1 + 1 + 1 ∨ k = w1.heap.size + 1 ∨ k = w1.heap.size + 1 + 1 ∨ k = w3.heap.size) → ¬ TkR p c al ac (W4.heap.size + 1) (W4.heap.size + 1 + 1) W4.heap.size k) := zH (fun k hk h => by
      rcases h with h | h | h | ⟨h0, off, e⟩ | ⟨h0, off, e⟩
      · omega
      · omega
      · omega
      · obtain ⟨b', off', e', h, -⟩ := HRC.out.at (k := 0) (by omega)
        rw [e] at e'; cases e'; omega
      · have := HAL.out _ e; dsimp only at this; omega)
    have HOK : Hid (∀ x ∈ xs, LOk p (0 + c.length) x) := zH (by
      rw [← HXS.out]
      exact tks_ok c [((s1, sr), [])] 0 (fun y hy => by simp only [List.mem_cons, List.not_mem_nil, or_false] at hy; subst hy; exact HS.out) (fun y hy => by simp only [List.mem_cons, List.not_mem_nil, or_false] at hy; subst hy; exact Nat.le_refl _) (by simp [sts]))
    have HSQ' := zH HSQ
    have HZ5 := zH hs5
    clear hW5 hb4 hb5 hs4 hb35 hs5 HSQ hsw hs3 HTK HT HF K4 K6 K7 K8 K9 K11 K12 K13 HRD
    gi_wp2_with fail
    have hs5 := HZ5.out
    have hs3 := HS3.out
    have hsw := HSW.out
    refine wpIn_rangeFunc_V (xs := xs) rfl (by intro args w; go_simp) HSQ'.out (bSelf _) (fun x vs M1 W h => h.size) (fun x vs M1 M0 W h hm => h.less hm) HRD5.out
      (LwI p s1 xs a al cap cl (w.heap.size + 1 + 1) w1.heap.size w3.heap.size w) (fun c pre W => c = .ret ∧ LwX s1 xs (w.heap.size + 1 + 1) w W) _ (fun k hk => ⟨by omega, HRM.out k hk⟩) (fun _ _ _ _ ⟨st, h1, h2⟩ hag => ⟨st, h1, h2.agree hag (by omega)⟩)
      (fun c pre W1 l o h hl hc => ⟨h.1, h.2.putObj o (by omega) (by omega)⟩)
      (fun b pre x M1 a₁ W => LwI p s1 xs a al cap cl (w.heap.size + 1 + 1) w1.heap.size w3.heap.size w pre M1 W ∧ ∃ v0 v1, TkEnc x #[v0, v1] M1 W ∧ a₁ = { tmps := (((b.tmps.setIfInBounds 38 v0).setIfInBounds 39 v1).setIfInBounds 14 v0).setIfInBounds 15 v1, defers := [] })
      ?hI1 ⟨(0, s1), fun rest h => by rw [h]; rfl, HJ0.out⟩ ?hassign ?hbody ?hdone ?hstop
    case hI1 =>
      rintro pre x M1 a₁ Wa l o ⟨⟨st, h1, h2⟩, v0, v1, henc, rfl⟩ hl hml hc
      exact ⟨⟨st, h1, h2.agree (Agree.putObj _ _ _ hl hml) (by omega)⟩, v0, v1, henc.putObj o hc, rfl⟩
    case hassign =>
      intro l pre x vs rest M1 Wa hxs henc hI hszA
      obtain ⟨a', c', v', ds', rfl, -⟩ := id henc
      have hf : ∀ k, M1 k → k < Wa.heap.size := by obtain ⟨st, h1, h2⟩ := hI; exact h2.fit
      clear hs5 hs3 hsw
      gi_wp2_with fail
      exact ⟨M1, ⟨hI, _, _, henc, rfl⟩, Upd.refl hf⟩
    case hbody =>
      rintro l pre x rest M1 a₁ Wa hxs ⟨⟨st, hso, hJ⟩, v0, v1, henc, rfl⟩ hszA
      simp only [zzT, zzO, zzS]
      have hok := HOK.out x (by rw [hxs]; simp)
      obtain ⟨now, em⟩ := x
      obtain ⟨na, nc, ve, ds, e, hnc, hLv, hEm⟩ := henc
      injection e with e; injection e with e1 e; injection e with e2 _
      dsimp only at e1 hnc hLv hEm
      subst e1 e2
      have hlen := few_sts HP.out hok.nd hok.st
      dsimp only at hlen
      have HJ := zH hJ
      have HLV := zH hLv
      have HLK := zH hok
      have HW := zH (hso _ hxs)
      have HSO := zH (fun (he : em = none) => (show ∀ rest', xs = (pre ++ [(now, em)]) ++ rest' → lowF 0 (0, s1) xs = lowF ((pre ++ [(now, em)]).length : Int) (lowL (pre.length : Int) st now) rest' from fun rest' hr => by
        have h1 : xs = pre ++ (now, em) :: rest' := by rw [hr, List.append_assoc]; rfl
        have h2 := hso _ h1
        rw [he] at h2 ⊢
        rw [h2, List.length_append]
        rfl))
      have hNe : ∀ (w : World) (a : Option Addr) (n c : Nat), Sem.run Tryz.prog (binOp .neq 28 (.slice a n c) (.slice none 0 0)) w = .ok (.bool (!a.isNone)) w := fun w a n c => run_neq_slice_nil_any w _ _ a n c 0 0 Tryz.underlying28
      cases em with
      | some e0 =>
        obtain ⟨ad, ec, hem, -⟩ := hEm
        subst hem
        obtain ⟨h6, k6, f6⟩ := hJ.k6
        obtain ⟨h7, k7, f7⟩ := hJ.k7
        obtain ⟨h8, k8, f8⟩ := hJ.k8
        clear hs5 hs3 hsw hJ hLv hxs hok hso HSO
        gi_wp2_with fail
        have hT := three_set HJ.out.k6 HJ.out.k7 HJ.out.k8 HJ.out.be HJ.out.lt.1 (.int .i64 0) (.int .i64 0) (.int .i64 0) (.int .i64 22)
        exact ⟨M1, ⟨rfl, HW.out.trans rfl, hT.1, hT.2.1, hT.2.2.1, hT.2.2.2, hT.2.2.2.size⟩, upd_three (Upd.refl HJ.out.fit) HJ.out.m6 _ _ _ _⟩
      | none =>
        have hem : v1 = .slice none 0 0 := hEm
        subst hem
        have HU0 : Hid (Upd M1 M1 Wa Wa) := zH (Upd.refl hJ.fit)
        obtain ⟨tk, htk⟩ : ∃ t, (pre.length : Int) = t := ⟨_, rfl⟩
        have HTK2 := zH htk
        rw [htk] at HJ HW HSO
        have HPT := zH (show tk ≤ 1000 ∧ 0 ≤ tk by
          have h1 := congrArg List.length hxs
          rw [← HXS.out] at h1
          have h2 := tks_len p c [((s1, sr), [])]
          have h3 := HCN.out
          rw [List.length_append] at h1
          omega)
        clear hs5 hs3 hsw hJ hLv hxs hok hso htk
        gi_wp2_with fail
        gi_loopw [17, 18, 45] (fun _ _ v45 wr => ∃ (j : Nat) (st' : Int × Int), v45 = .int .i64 j ∧ j ≤ now.length ∧ Hid (st' = lowL tk st (now.take j)) ∧ Hid (LwJ p a al cap cl (w.heap.size + 1 + 1) w1.heap.size w3.heap.size w tk st' M1 wr) ∧ Hid (LvAt wr M1 na now ds) ∧ Hid (Upd M1 M1 Wa wr)) (fun _ _ v45 _ => now.length - (intOf v45).toNat)
        case atStart => exact ⟨0, st, rfl, Nat.zero_le _, zH rfl, HJ, HLV, HU0⟩
        case round =>
          obtain ⟨j, st1, rfl, hj, hst1, HJ1, HLV1, HU1⟩ := hrel
          obtain ⟨wo, hwo⟩ : ∃ wo, wo = wr := ⟨_, rfl⟩
          subst hwo
          by_cases hlj : j < now.length
          · obtain ⟨bn, on, rfl, hbn, hcn⟩ := (HLV1.out.rd).at (k := j * 3) (by omega)
            have hst := HLK.out.st _ (ag_mem hlj)
            obtain ⟨⟨⟨av, ar⟩, dl⟩, haj⟩ : ∃ x, ag now j = x := ⟨_, rfl⟩
            obtain ⟨⟨dA, dC⟩, hdj⟩ : ∃ x, ds j = x := ⟨_, rfl⟩
            have e0 : wo.cell? ⟨bn, on + j * 3, none⟩ = some (.int .i64 av) := by have := hcn (j * 3) (by omega); rw [arrF0, haj] at this; exact this
            have e1 : wo.cell? ⟨bn, on + j * 3 + 1, none⟩ = some (.bool ar) := by have := hcn (j * 3 + 1) (by omega); rw [arrF1, haj] at this; exact this
            have e2 : wo.cell? ⟨bn, on + j * 3 + 1 + 1, none⟩ = some (.slice dA dl.length dC) := by have := hcn (j * 3 + 1 + 1) (by omega); rw [arrF2, haj, hdj] at this; exact this
            rw [haj] at hst
            dsimp only at hst
            have hfold : lowL tk st (now.take (j + 1)) = if av < st1.2 then (tk, av) else st1 := by
              unfold lowL at hst1 ⊢
              rw [List.take_succ_eq_append_getElem hlj, List.foldl_append, ← hst1.out, ← ag_lt hlj, haj]
              rfl
            have HFO := zH hfold
            have HST := zH hst
            clear hcn haj hdj hst hfold
            have k9 := HJ1.out.k9.c1
            gi_wp2_with fail
            clear k9 e0 e1 e2
            obtain ⟨W6, hW6⟩ : ∃ W6, wo.alloc (.cells #[.int .i64 av, .bool ar, .slice dA dl.length dC] 163) = W6 := ⟨_, rfl⟩
            rw [hW6]
            have hb6 : Below wo.heap.size wo W6 := by subst hW6; exact bAlloc (bSelf _) _
            clear hW6
            refine ⟨trivial, ((callsIn_wide.2 (HPR.out al cl av W6 HST.out (HJ1.out.rl.to hb6))).inRound l).mono ?_⟩
            rintro e w7 ⟨rfl, hb7⟩
            have HJ7 := zH (HJ1.out.to (bThen hb6 hb7))
            have HB7 := zH (bThen hb6 hb7)
            have HS7 : Hid (w3.heap.size < w7.heap.size) := zH (by have := (HJ1.out.to (bThen hb6 hb7)).k13.1; exact this)
            clear hb6 hb7
            have k13 := HJ7.out.k13.c1
            gi_wp2_with fail
            clear k13
            obtain ⟨W8, hW8⟩ : ∃ W8, w7.alloc (.cells #[.int .i64 (prQ p.pts av).1, .int .i64 (prQ p.pts av).2] 167) = W8 := ⟨_, rfl⟩
            rw [hW8]
            have hb8 : Below w7.heap.size w7 W8 := by subst hW8; exact bAlloc (bSelf _) _
            have K18 : Hid (Blk W8 w7.heap.size #[.int .i64 (prQ p.pts av).1, .int .i64 (prQ p.pts av).2]) := by subst hW8; exact zH (Blk.new _ _ _)
            clear hW8
            have q1 : QOk (prQ p.pts av) := QOk.of_pts HP.out.pts HST.out.1 HST.out.2
            have q2 := QOk.of_pts HP.out.pts HJ1.out.bd.1 HJ1.out.bd.2
            refine ⟨trivial, ((callsIn_wide.2 (oLess_any (prQ p.pts av) (prQ p.pts st1.2) W8 ⟨by have := q1.n0; omega, by have := q1.n1; omega⟩ ⟨by have := q1.d0; omega, by have := q1.d1; omega⟩ ⟨by have := q2.n0; omega, by have := q2.n1; omega⟩ ⟨by have := q2.d0; omega, by have := q2.d1; omega⟩)).inRound l).mono ?_⟩
            rintro e w9 ⟨rfl, hb9⟩
            rw [less_up HP.out.pts HST.out.1 HST.out.2 HJ1.out.bd.1 HJ1.out.bd.2]
            have HJ9 := zH (HJ7.out.to (bThen hb8 hb9))
            have HB9 := zH (bThen HB7.out (bThen hb8 hb9))
            replace K18 := zH (K18.out.to hb9)
            clear hb8 hb9 q1 q2 HJ7 HB7
            have HU9 : Hid (Upd M1 M1 Wa w9) := zH (HU1.out.trans (Upd.of_below HJ1.out.fit HB9.out))
            have HLV9 : Hid (LvAt w9 M1 (some ⟨bn, on, none⟩) now ds) := zH (HLV1.out.to HB9.out)
            by_cases hv : av < st1.2
            · have hvd : decide (av < st1.2) = true := decide_eq_true hv
              rw [hvd]
              clear hvd
              obtain ⟨h18, k18, f18⟩ := K18.out
              obtain ⟨h11, k11, f11⟩ := HJ9.out.k11
              obtain ⟨h12, k12, f12⟩ := HJ9.out.k12
              obtain ⟨h13, k13, f13⟩ := HJ9.out.k13
              have hs7 : w3.heap.size < w7.heap.size := HS7.out
              have hn1 : w7.heap.size ≠ w1.heap.size + 1 := by have := HS3.out; omega
              have hn2 : w1.heap.size + 1 ≠ w7.heap.size := fun e => hn1 e.symm
              have hn3 : w3.heap.size ≠ w1.heap.size + 1 := by have := HS3.out; omega
              gi_wp2_with fail
              have hup : Upd M1 M1 w9 ((((w9.setCell ⟨w1.heap.size + 1, 0, none⟩ (.int .i64 tk)).setCell ⟨w3.heap.size, 0, none⟩ (.int .i64 (prQ p.pts av).1)).setCell ⟨w3.heap.size, 1, none⟩ (.int .i64 (prQ p.pts av).2)).drew) := by
                have u1 := Upd.setCell HJ9.out.fit ⟨w1.heap.size + 1, 0, none⟩ (.int .i64 tk) HJ9.out.m11.1
                have u2 := u1.trans (Upd.setCell u1.fit ⟨w3.heap.size, 0, none⟩ (.int .i64 (prQ p.pts av).1) HJ9.out.m11.2.2)
                have u3 := u2.trans (Upd.setCell u2.fit ⟨w3.heap.size, 1, none⟩ (.int .i64 (prQ p.pts av).2) HJ9.out.m11.2.2)
                exact u3.trans (Upd.of_below u3.fit (bSelf _).drew)
              have HUP := zH (HU9.out.trans hup)
              have HLP := zH (HLV9.out.upd hup)
              have HJP := zH ((HJ9.out.put (v := av) HST.out).to (bSelf _).drew)
              clear hup
              gi_region
              all_goals focus
                gi_wp2_with fail
                go_roundw
                case rel => exact ⟨j + 1, (tk, av), congrArg (Value.int .i64) (by omega), by omega, zH (by rw [HFO.out, if_pos hv]), HJP, HLP, HUP⟩
                case measure => simp [intOf]; omega
            · have hvd : decide (av < st1.2) = false := decide_eq_false hv
              rw [hvd]
              clear hvd
              gi_wp2_with fail
              go_roundw
              case rel => exact ⟨j + 1, st1, congrArg (Value.int .i64) (by omega), by omega, zH (by rw [HFO.out, if_neg (by omega)]), HJ9, HLV9, HU9⟩
              case measure => simp [intOf]; omega
          · obtain rfl : j = now.length := by omega
            have hfin : st1 = lowL tk st now := by rw [hst1.out, List.take_length]
            have HFIN := zH hfin
            obtain ⟨h12, k12, f12⟩ := HJ1.out.k12
            obtain ⟨t0, t1⟩ := HPT.out
            clear hfin
            gi_wp2_with fail
            have HJT := HJ1.out.tick (tk + 1)
            have hl : ((pre ++ [(now, (none : Option (List Int)))]).length : Int) = tk + 1 := by rw [List.length_append, ← HTK2.out]; rfl
            refine ⟨M1, ⟨st1, fun rest' hr => ?_, ?_⟩, HU1.out.trans (Upd.setCell HJ1.out.fit _ _ HJ1.out.m11.2.1)⟩
            · have := HSO.out trivial rest' hr
              rw [HFIN.out]; exact this
            · rw [hl]; exact HJT
    case hdone =>
      intro D M1 Wd hD hMD hI hdef
      obtain ⟨st, hso, hJ⟩ := hI
      have hfin : lowF 0 (0, s1) xs = some st := by rw [hso [] (by simp)]; rfl
      have HFIN := zH hfin
      have HJ := zH hJ
      have HD := zH hdef
      have hDn : w3.heap.size + 4 ≤ D := by omega
      have hDw : w.heap.size + 1 + 1 + 1 + 1 + 1 ≤ D := by omega
      have hA := HA.out
      have hE := HE.out
      rw [hfin] at hA hE
      have hE' : re = 0 := hE
      have hA' : (ra, rq, rd) = (st.1, fr (prQ p.pts st.2).1 (prQ p.pts st.2).2) := hA
      obtain ⟨t0, v0⟩ := st
      injection hA' with hA1 hA2
      dsimp only at hA1 hA2
      subst hA1 hE'
      have HFR := zH (fun W => oFrac_any (prQ p.pts v0) W (QOk.of_pts HP.out.pts hJ.bd.1 hJ.bd.2))
      have HA2 := zH hA2
      rw [← HA2.out] at HFR
      obtain ⟨⟨q1, q2⟩, hq⟩ : ∃ q, prQ p.pts v0 = q := ⟨_, rfl⟩
      have K13 : Hid (Blk Wd w3.heap.size #[.int .i64 q1, .int .i64 q2]) := zH (by have := hJ.k13; dsimp only at this; rw [hq] at this; exact this)
      rw [hq] at HFR
      have K11 : Hid (Blk Wd (w1.heap.size + 1) #[.int .i64 ra]) := zH hJ.k11
      clear hs5 hs3 hsw hJ hdef hfin hso hA hE hA2 HA HE hq
      gi_wp2_with fail
      refine wpIn_wide.2 ?_
      refine wp_region_quiet_tail 3 (fun w' => Below (World.heap Wd).size (Wd) w') (by kernel_rfl) (by kernel_rfl) (Below.refl _ _).drew ?_
      simp only [List.take_succ_cons, List.take_zero, List.drop_succ_cons, List.drop_zero]
      repeat (first | (refine wpQuiet_no (by rfl) ?_; (simp only [Act.put, zzT, zzO, zzS])) | (refine wpQuiet_yes (by rfl) ?_; apply Exists.intro; refine ⟨fun w1 hb1 => ?_, ?_⟩; (focus (((obtain ⟨-, k11, -⟩ := K11.out.to hb1; obtain ⟨-, k13, -⟩ := K13.out.to hb1); have hb1 := zH hb1; go_simp); (try (go_bits; try go_simp)); (try (rw [if_pos (by omega)]; try go_simp)); (first | done | (((go_at_call 95); refine (HFR.out _).mono ?_; rintro e w' ⟨rfl, hb⟩; exact ⟨rfl, bThen hb1.out hb⟩)) | (with_reducible rfl) | exact rfl))); (simp only [Act.put, zzT, zzO, zzS])))
      refine wpQuiet_nil ?_
      intro w1' hb1
      have HJ1 := zH (HJ.out.to hb1)
      have HB1 := zH hb1
      have HD1 : Hid (w1'.heap[D]? = some (.deferred (some []))) := zH ((hb1.block D (Array.getElem?_eq_some_iff.1 HD.out).1).trans HD.out)
      obtain ⟨h6, k6, f6⟩ := HJ1.out.k6
      obtain ⟨h7, k7, f7⟩ := HJ1.out.k7
      obtain ⟨h8, k8, f8⟩ := HJ1.out.k8
      clear hb1
      go_wp2_with fail
      obtain ⟨F6, F7, F8, hbb⟩ := three_set HJ1.out.k6 HJ1.out.k7 HJ1.out.k8 HJ1.out.be HJ1.out.lt.1 (.int .i64 ra) (.int .i64 rq) (.int .i64 rd) (.int .i64 0)
      have hgD : ((((w1'.setCell ⟨w.heap.size + 1 + 1, 0, none⟩ (.int .i64 ra)).setCell ⟨w.heap.size + 1 + 1 + 1, 0, none⟩ (.int .i64 rq)).setCell ⟨w.heap.size + 1 + 1 + 1, 1, none⟩ (.int .i64 rd)).setCell ⟨w.heap.size + 1 + 1 + 1 + 1, 0, none⟩ (.int .i64 0)).heap[D]? = some (.deferred (some [])) := by
        rw [Below.heap_setCell _ _ _ _ (by simp; omega), Below.heap_setCell _ _ _ _ (by simp; omega), Below.heap_setCell _ _ _ _ (by simp; omega), Below.heap_setCell _ _ _ _ (by simp; omega)]
        exact HD1.out
      obtain ⟨W9, hW9⟩ : ∃ W, (((w1'.setCell ⟨w.heap.size + 1 + 1, 0, none⟩ (.int .i64 ra)).setCell ⟨w.heap.size + 1 + 1 + 1, 0, none⟩ (.int .i64 rq)).setCell ⟨w.heap.size + 1 + 1 + 1, 1, none⟩ (.int .i64 rd)).setCell ⟨w.heap.size + 1 + 1 + 1 + 1, 0, none⟩ (.int .i64 0) = W := ⟨_, rfl⟩
      rw [hW9] at F6 F7 F8 hbb hgD ⊢
      clear hW9 k6 k7 k8 f6 f7 f8
      gi_wp2_with fail
      refine ⟨by simp, .inl ⟨_, _, rfl, run_takeDeferred hgD, ?_⟩⟩
      have G6 := (blk_grown F6 (grownBy_putObj' W9 D (.deferred none)) (fun e => by injection e with e; omega)).2.1 0
      have G7 := (blk_grown F7 (grownBy_putObj' W9 D (.deferred none)) (fun e => by injection e with e; omega)).2.1 0
      have G7' := (blk_grown F7 (grownBy_putObj' W9 D (.deferred none)) (fun e => by injection e with e; omega)).2.1 1
      have G8 := (blk_grown F8 (grownBy_putObj' W9 D (.deferred none)) (fun e => by injection e with e; omega)).2.1 0
      have hbf := hbb.grown (grownBy_putObj' W9 D (.deferred none)) hbb.size (fun k e => by cases e; omega)
      clear F6 F7 F8
      refine ⟨.tuple #[.int .i64 ra, .agg #[.int .i64 rq, .int .i64 rd], .int .i64 0], ?_, rfl, hbf⟩
      simp [results, Tryz.results33, go_sem, G6, G7, G7', G8]
    case hstop =>
      rintro D c' pre x rest Wd hD hxs ⟨rfl, hX⟩ hdef
      have HX := zH hX
      have HD := zH hdef
      have hDn : w3.heap.size + 4 ≤ D := by omega
      have hDw : w.heap.size + 1 + 1 + 1 + 1 + 1 ≤ D := by omega
      clear hs5 hs3 hsw hX hdef
      gi_wp2_with fail
      refine ⟨by simp, .inl ⟨_, _, rfl, run_takeDeferred HD.out, ?_⟩⟩
      obtain ⟨hno, k1, k2, k3, hb, hs⟩ := HX.out.putObj (.deferred none) (l := D) (by omega) (by omega)
      have G6 := k1.2.1 0
      have G7 := k2.2.1 0
      have G7' := k2.2.1 1
      have G8 := k3.2.1 0
      have hA := HA.out
      have hE := HE.out
      rw [hno] at hA hE
      injection hA with hA1 hA2
      injection hA2 with hA2 hA3
      have hE' : re = 22 := hE
      subst hA1 hA2 hA3 hE'
      refine ⟨.tuple #[.int .i64 0, .agg #[.int .i64 0, .int .i64 0], .int .i64 22], ?_, rfl, hb⟩
      simp [results, Tryz.results33, go_sem, G6, G7, G7', G8]
  · rw [if_neg h0] at HA HE
    have h0' : (opCE p s.1 c != 0) = true := by simpa using h0
    obtain ⟨oe, hoe⟩ : ∃ e, opCE p s.1 c = e := ⟨_, rfl⟩
    rw [hoe] at HE HO h0'
    obtain rfl : re = oe := HE.out
    have hA := HA.out
    injection hA with hA1 hA2
    injection hA2 with hA2 hA3
    subst hA1 hA2 hA3
    clear h0 hoe hr hrc hlen hlc HA HE
    obtain ⟨s1, sr⟩ := s
    dsimp only at HO ⊢
    go_enter Tryz.func33, Tryz.ntmps33
    go_wp2_with fail
    refine (HO.out _ (bAlloc (bAlloc (bAlloc (bAlloc (bAlloc (bSelf w) _) _) _) _) _)).mono ?_
    intro e w1 hpost
    obtain ⟨al, cl, rfl, hcl, hrd, hb, hfr⟩ := hpost.ex
    have K6 : Hid (Blk w1 (w.heap.size + 1 + 1) #[.int .i64 0]) := zH ((((Blk.newAt _ _ _ (by simp)).alloc _).alloc _).to hb)
    have K7 : Hid (Blk w1 (w.heap.size + 1 + 1 + 1) #[.int .i64 0, .int .i64 0]) := zH (((Blk.newAt _ _ _ (by simp)).alloc _).to hb)
    have K8 : Hid (Blk w1 (w.heap.size + 1 + 1 + 1 + 1) #[.int .i64 0]) := zH ((Blk.newAt _ _ _ (by simp)).to hb)
    have HB := zH (bThen (bAlloc (bAlloc (bAlloc (bAlloc (bAlloc (bSelf w) _) _) _) _) _) hb)
    clear hb hrd hpost hfr HO
    obtain ⟨W, hW⟩ : ∃ W, w1.alloc (.cells (plL p a cap al cl) 145) = W := ⟨_, rfl⟩
    replace K6 : Hid (Blk W (w.heap.size + 1 + 1) #[.int .i64 0]) := by subst hW; exact zH (K6.out.alloc _)
    replace K7 : Hid (Blk W (w.heap.size + 1 + 1 + 1) #[.int .i64 0, .int .i64 0]) := by subst hW; exact zH (K7.out.alloc _)
    replace K8 : Hid (Blk W (w.heap.size + 1 + 1 + 1 + 1) #[.int .i64 0]) := by subst hW; exact zH (K8.out.alloc _)
    replace HB : Hid (Below w.heap.size w W) := by subst hW; exact zH (bAlloc HB.out _)
    subst hW
    obtain ⟨h6, k6, f6⟩ := K6.out
    obtain ⟨h7, k7, f7⟩ := K7.out
    obtain ⟨h8, k8, f8⟩ := K8.out
    go_wp2_with fail
    obtain ⟨F6, F7, F8, hbb⟩ := three_set K6.out K7.out K8.out HB.out (by omega) (.int .i64 0) (.int .i64 0) (.int .i64 0) (.int .i64 re)
    have G6 := F6.2.1 0
    have G7 := F7.2.1 0
    have G7' := F7.2.1 1
    have G8 := F8.2.1 0
    clear F6 F7 F8 k6 k7 k8 f6 f7 f8
    refine bodyPost_ret (v := .tuple #[.int .i64 0, .agg #[.int .i64 0, .int .i64 0], .int .i64 re]) ?_ rfl ⟨rfl, hbb⟩
    simp [results, Tryz.results33, go_sem, G6, G7, G7', G8]
end
end Go.Proofs.YtbpcapcgbnbknaaGreat
