/-
  Texts of this claim, in their build order: E3.
-/
import Derived.Test.YtfdlhhinomjakaaHel19
import Derived.Test.YtfdlhhinomjakaaHel0

namespace Go.Proofs.Ytfdlhhinomjakaa
section
open Go.RowKit

/-- The displacement at a node, out of the one below and what its own spring adds. -/
def ownF (ks fs : List Int) (k : Nat) : Int × Int := fr (fs.drop k).sum (gi ks k)
def nextAt (p q : Int × Int) : Int × Int :=
  fr (p.1 * q.2.tdiv (Int.gcd p.2 q.2 : Nat) + q.1 * p.2.tdiv (Int.gcd p.2 q.2 : Nat)) (p.2.tdiv (Int.gcd p.2 q.2 : Nat) * q.2)
def fits (p : Int × Int) : Bool := (decide (-1000000000 ≤ p.1) && decide (p.1 ≤ 1000000000)) && decide (p.2 ≤ 1000000000)
def movO (ks fs : List Int) : Nat → Nat → Int × Int → Option (List (Int × Int))
  | 0, _, _ => some []
  | n + 1, k, p => if fits (nextAt p (ownF ks fs k)) then (movO ks fs n (k + 1) (nextAt p (ownF ks fs k))).map (nextAt p (ownF ks fs k) :: ·) else none
def fcells (l : List (Int × Int)) : List Value := l.flatMap fun p => [.int .i64 p.1, .int .i64 p.2]
def fg (l : List (Int × Int)) (i : Nat) : Int × Int := l.getD i (0, 0)
def fracs (l : List (Int × Int)) (j : Nat) : Value := .int .i64 (if j % 2 = 0 then (fg l (j / 2)).1 else (fg l (j / 2)).2)

theorem fcells_get : ∀ (l : List (Int × Int)) (i : Nat), i < l.length * 2 → (fcells l)[i]? = some (fracs l i)
  | [], i, h => by simp at h
  | p :: l, i, h => by
    have hm : fcells (p :: l) = .int .i64 p.1 :: .int .i64 p.2 :: fcells l := rfl
    rw [hm]
    match i with
    | 0 => rfl
    | 1 => rfl
    | i + 2 =>
      simp only [List.getElem?_cons_succ]
      rw [fcells_get l i (by simp only [List.length_cons] at h; omega)]
      unfold fracs
      rw [show (i + 2) / 2 = i / 2 + 1 by omega, show (i + 2) % 2 = i % 2 by omega]
      rfl

theorem rtFrac : RowTy Try.prog 57 65 2 16 (.agg #[.int .i64 0, .int .i64 0]) := by
  obtain ⟨i, h1, h2, h3, h4⟩ := info_parts (show (Try.prog.info? 65).map (fun i => (i.zero, i.size, i.bytes)) = some (some (.agg #[.int .i64 0, .int .i64 0]), 2, 16) by kernel_rfl)
  exact ⟨by kernel_rfl, ⟨i, h1, h2, h3, h4⟩, rfl, by omega, by omega⟩

theorem tdiv_pos {d g : Int} (hd : 0 < d) (h : g ∣ d) (hg : 0 < g) : 0 < d.tdiv g := by
  obtain ⟨c, hc⟩ := h
  have h3 : d.tdiv g = c := by rw [hc]; exact Int.mul_tdiv_cancel_left _ (by omega)
  rw [h3]
  rcases Int.lt_or_le 0 c with h | h
  · exact h
  · have : g * c ≤ 0 := Int.mul_nonpos_of_nonneg_of_nonpos (by omega) h
    omega

/-- A valid chain. -/
structure ChOk (ks fs : List Int) : Prop where
  len : fs.length = ks.length
  few : ks.length ≤ 6
  k1 : ∀ k, k < ks.length → 1 ≤ gi ks k ∧ gi ks k ≤ 20
  f1 : ∀ k, k < ks.length → -1000 ≤ gi fs k ∧ gi fs k ≤ 1000
theorem chkC_zero {ks fs : List Int} (h : (chkC ks fs).2 = 0) : ChOk ks fs := by
  unfold chkC at h
  by_cases h0 : chE0 ks fs = 0
  · rw [if_pos h0] at h
    have e := firstE_zero (show firstE [_, _] = 0 from h0)
    have e1 := unl_zero (by decide) (e _ (List.mem_cons_self ..))
    have e2 := unl_zero (by decide) (e _ (List.mem_cons_of_mem _ (List.mem_cons_self ..)))
    simp only [Bool.and_eq_true, beq_iff_eq, decide_eq_true_eq] at e1 e2
    have hn : ∀ k, k < ks.length → nodE ks fs k = 0 := fun k hk => eachR_zero ks.length 0 h k (by omega) (by omega)
    have hn2 := fun k hk => unl_zero (by decide) (hn k hk)
    simp only [Bool.and_eq_true, decide_eq_true_eq] at hn2
    exact ⟨by omega, by omega, fun k hk => (hn2 k hk).1, fun k hk => (hn2 k hk).2⟩
  · rw [if_neg h0] at h; exact absurd h h0
theorem suml_bd {l : List Int} (h : ∀ k, k < l.length → -1000 ≤ gi l k ∧ gi l k ≤ 1000) : l.sum.natAbs ≤ 1000 * l.length := by
  induction l with
  | nil => simp
  | cons x l ih =>
    have h1 := h 0 (by simp)
    have h2 := ih (fun k hk => h (k + 1) (by simp; omega))
    simp only [List.sum_cons, List.length_cons]
    simp only [gi, List.getD_cons_zero] at h1
    omega
theorem gi_dropk (l : List Int) (k i : Nat) : gi (l.drop k) i = gi l (k + i) := by
  unfold gi; rw [List.getD_eq_getElem?_getD, List.getD_eq_getElem?_getD, List.getElem?_drop]

/-- What stands at the head of a round. -/
structure MovSt (ks fs : List Int) (a1 a2 : Option Addr) (c1 c2 : Nat) (w : World) (k : Nat) (v : Value) (p : Int × Int) (pre : List (Int × Int)) (wr : World) : Prop where
  hk : k ≤ ks.length
  chain : Blk wr w.heap.size (chV a1 ks.length c1 a2 ks.length c2)
  here : Blk wr (w.heap.size + 1) #[.int .i64 p.1, .int .i64 p.2]
  own : wr.ownsRow (w.heap.size + 2) 65 2 v pre.length (fcells pre)
  bel : Below w.heap.size w wr
  eq : movO ks fs ks.length 0 (0, 1) = (movO ks fs (ks.length - k) k p).map (pre ++ ·)
  len : pre.length = k
  n1 : p.1.natAbs ≤ 1000000000
  d0 : 0 < p.2
  d1 : p.2 ≤ 1000000000

theorem movO_some {ks fs : List Int} {n k : Nat} {p q : Int × Int} (hq : nextAt p (ownF ks fs k) = q) (hf : fits q = true) : movO ks fs (n + 1) k p = (movO ks fs n (k + 1) q).map (q :: ·) := by
  subst hq; rw [movO, if_pos hf]
theorem movO_none {ks fs : List Int} {n k : Nat} {p q : Int × Int} (hq : nextAt p (ownF ks fs k) = q) (hf : fits q = false) : movO ks fs (n + 1) k p = none := by
  subst hq; rw [movO, if_neg (by rw [hf]; simp)]
theorem MovSt.stop {ks fs : List Int} {k : Nat} {p q : Int × Int} {pre : List (Int × Int)} (h : movO ks fs ks.length 0 (0, 1) = (movO ks fs (ks.length - k) k p).map (pre ++ ·)) (hk : k < ks.length) (hq : nextAt p (ownF ks fs k) = q) (hf : fits q = false) :
    movO ks fs ks.length 0 (0, 1) = none := by
  rw [h, show ks.length - k = (ks.length - (k + 1)) + 1 by omega, movO_none hq hf]; rfl
theorem MovSt.go {ks fs : List Int} {k : Nat} {p q : Int × Int} {pre : List (Int × Int)} (h : movO ks fs ks.length 0 (0, 1) = (movO ks fs (ks.length - k) k p).map (pre ++ ·)) (hk : k < ks.length) (hq : nextAt p (ownF ks fs k) = q) (hf : fits q = true) :
    movO ks fs ks.length 0 (0, 1) = (movO ks fs (ks.length - (k + 1)) (k + 1) q).map ((pre ++ [q]) ++ ·) := by
  rw [h, show ks.length - k = (ks.length - (k + 1)) + 1 by omega, movO_some hq hf]
  cases movO ks fs (ks.length - (k + 1)) (k + 1) q <;> simp
theorem grown_set (W : World) (p : Addr) (v : Value) : W.grownBy (W.setCell p v) (some p.block) :=
  ⟨rfl, rfl, rfl, by simp [World.setCell], fun k _ hk => Below.heap_setCell _ _ _ k (fun e => hk (by rw [e]))⟩
theorem owns_set {W : World} {B : Nat} {e : TypeId} {k n : Nat} {v x : Value} {xs : List Value} {p : Addr} (h : W.ownsRow B e k v n xs) (hp : p.block < B) : (W.setCell p x).ownsRow B e k v n xs :=
  h.kept (grown_set W p x) (.inr (fun e => by have := (h.lt _ e).1; omega))

def MovPost (ks fs : List Int) (w : World) (e : Ending) (w' : World) : Prop :=
  match movO ks fs ks.length 0 (0, 1) with
  | none => e = .returned (.tuple #[.slice none 0 0, .int .i64 8]) ∧ Below w.heap.size w w'
  | some l => ∃ a cap, e = .returned (.tuple #[.slice a l.length cap, .int .i64 0]) ∧ l.length ≤ cap ∧ Reads w' a (l.length * 2) (fracs l) ∧ Below w.heap.size w w' ∧ ∀ p, a = some p → w.heap.size ≤ p.block

set_option maxHeartbeats 1600000 in
set_option maxRecDepth 100000 in
theorem moved_any (ks fs : List Int) (a1 a2 : Option Addr) (c1 c2 : Nat) (w : World) (hok : ChOk ks fs) (hc2 : fs.length ≤ c2) (hr1 : Reads w a1 ks.length (ints ks)) (hr2 : Reads w a2 fs.length (ints fs)) :
    Calls Try.prog 51 #[.agg (chV a1 ks.length c1 a2 fs.length c2)] w (MovPost ks fs w) := by
  rw [hok.len] at hc2 hr2 ⊢
  have HOK := zH hok
  have HR1 := zH hr1
  have HR2 := zH hr2
  have hfew := hok.few
  clear hr1 hr2 hok
  go_enter Try.func51, Try.ntmps51
  go_wp2_with fail
  go_loopw [5, 14] (fun v i wr => ∃ (k : Nat) (p : Int × Int) (pre : List (Int × Int)), i = .int .i64 k ∧ Hid (MovSt ks fs a1 a2 c1 c2 w k v p pre wr)) (fun _ i _ => ks.length - (intOf i).toNat)
  case atStart =>
    exact ⟨0, (0, 1), [], rfl, zH ⟨Nat.zero_le _, (Blk.new _ _ _).alloc _, Blk.newAt _ _ _ (by simp), World.ownsRow_nil _ _ _ _, bAlloc (bAlloc (bSelf w) _) _, by simp, rfl, by decide, by decide, by decide⟩⟩
  case round =>
    obtain ⟨k, ⟨n0, d0⟩, pre, rfl, HI⟩ := hrel
    have hkk := HI.out.hk
    by_cases hlt : k < ks.length
    · obtain ⟨b1, o1, rfl, hb1, hc1⟩ := HR1.out.at hlt
      obtain ⟨b2, o2, rfl, hb2, -⟩ := HR2.out.at hlt
      have hk1 := HOK.out.k1 k hlt
      obtain ⟨kk, hkk2⟩ : ∃ kk, gi ks k = kk := ⟨_, rfl⟩
      rw [hkk2] at hk1
      have c1' : wr.cell? ⟨b1, o1 + k, none⟩ = some (.int .i64 kk) := (HI.out.bel.cell (p := ⟨b1, o1 + k, none⟩) hb1).trans (by rw [hc1 k hlt, ← hkk2]; rfl)
      have hd0 := HI.out.d0
      have hd1 := HI.out.d1
      have hn1 := HI.out.n1
      dsimp only at hd0 hd1 hn1
      have hdl : (fs.drop k).length = ks.length - k := by rw [List.length_drop, HOK.out.len]
      obtain ⟨S, hS⟩ : ∃ S, (fs.drop k).sum = S := ⟨_, rfl⟩
      have hSb : S.natAbs ≤ 6000 := by
        have h1 := @suml_bd (fs.drop k) (fun i hi => by rw [gi_dropk]; exact HOK.out.f1 (k + i) (by omega))
        rw [hS, hdl] at h1
        omega
      have HSUM : Hid (∀ W, Below w.heap.size w W → Calls Try.prog 71 #[.slice (some ⟨b2, o2 + k, none⟩) (ks.length - k) (c2 - k)] W fun e w' => e = .returned (.int .i64 S) ∧ W = w') := zH (fun W hW => by
        have hrr : Reads W (some ⟨b2, o2 + k, none⟩) (fs.drop k).length (ints (fs.drop k)) := by
          obtain ⟨b', o', e, hb', hc'⟩ := HR2.out.at hlt
          cases e
          refine .inr ⟨b2, o2 + k, rfl, Nat.lt_of_lt_of_le hb' hW.size, fun i hi => ?_⟩
          rw [hdl] at hi
          rw [hW.cell (p := ⟨b2, o2 + k + i, none⟩) hb', Nat.add_assoc, hc' (k + i) (by omega)]
          unfold ints
          rw [gi_dropk]
        have := sum_any (fs.drop k) (some ⟨b2, o2 + k, none⟩) (c2 - k) W (by omega) (fun i hi => by rw [gi_dropk]; exact HOK.out.f1 (k + i) (by omega)) hrr
        rwa [hdl, hS] at this)
      have HS := zH hS
      have HK2 := zH hkk2
      clear hS hdl hkk2 hc1
      have hck : (c2 = k) = False := by rw [eq_iff_iff]; exact ⟨fun h => by omega, False.elim⟩
      have hck' : ¬ c2 = k := by omega
      obtain ⟨-, kc, -⟩ := HI.out.chain
      have hbw := zH HI.out.bel
      go_wp2_with (go_at_call 71; refine (HSUM.out _ hbw.out).mono ?_; rintro e w' ⟨rfl, rfl⟩)
      obtain ⟨n1, d1, hnd⟩ : ∃ n1 d1, fr S kk = (n1, d1) := ⟨_, _, rfl⟩
      have HND := zH hnd
      have hd1p : 0 < d1 := by have := fr_pos (n := S) (show 0 < kk by omega); rw [hnd] at this; exact this
      have hd1b : d1 ≤ 20 := by have := fr_bd2 (n := S) (m := kk) (B := 20) (by omega); rw [hnd] at this; dsimp only at this; omega
      have hn1b : n1.natAbs ≤ 6000 := by have := fr_bd1 (n := S) (m := kk) hSb; rw [hnd] at this; exact this
      refine (fraction_any S kk _ (by omega) (by omega) (by omega)).mono ?_
      rintro e w1 ⟨rfl, hbf⟩
      rw [hnd]
      dsimp only
      clear hnd kc c1'
      have HC1 := zH (HI.out.chain.to hbf)
      have HH1 := zH (HI.out.here.to hbf)
      have HBF := zH hbf
      clear hbf
      dsimp only at HH1
      obtain ⟨hh1, kh, -⟩ := HH1.out
      go_wp2_with fail
      obtain ⟨g, hg⟩ : ∃ g : Int, ((Int.gcd d0 d1 : Nat) : Int) = g := ⟨_, rfl⟩
      have hg0 : 0 < g := by
        have : 0 < Int.gcd d0 d1 := Nat.pos_of_ne_zero (fun h => by have := (Int.gcd_eq_zero_iff.1 h).2; omega)
        omega
      have hgd0 : g ∣ d0 := by rw [← hg]; exact Int.gcd_dvd_left ..
      have hgd1 : g ∣ d1 := by rw [← hg]; exact Int.gcd_dvd_right ..
      refine (divisor_any d0 d1 _ (by omega) (by omega)).mono ?_
      rintro e w3 ⟨rfl, hbf⟩
      rw [hg]
      have HC3 := zH ((HC1.out.alloc (.cells #[.int .i64 n1, .int .i64 d1] 65)).to hbf)
      have HH3 := zH ((HH1.out.alloc (.cells #[.int .i64 n1, .int .i64 d1] 65)).to hbf)
      have HO3 := zH ((Blk.new w1 #[.int .i64 n1, .int .i64 d1] 65).to hbf)
      have HB3 := zH ((HBF.out.alloc HBF.out.size (.cells #[.int .i64 n1, .int .i64 d1] 65)).trans (hbf.mono (by have := HBF.out.size; simp; omega)))
      have hs3 : w1.heap.size < w3.heap.size := HO3.out.1
      clear hbf kh
      have e1 := tdiv_pos hd1p hgd1 hg0
      have e2 := tdiv_pos hd0 hgd0 hg0
      have e3 := @tdivB d1 g 20 (by omega)
      have e4 := @tdivB d0 g 1000000000 (by omega)
      have m1 := mul_bd (a := n0) (b := d1.tdiv g) (A := 1000000000) (B := 20) (by omega) (by omega) (by omega) (by omega)
      have m2 := mul_bd (a := n1) (b := d0.tdiv g) (A := 6000) (B := 1000000000) (by omega) (by omega) (by omega) (by omega)
      have m3 := mul_bd (a := d0.tdiv g) (b := d1) (A := 1000000000) (B := 20) (by omega) (by omega) (by omega) (by omega)
      have m4 : 0 < d0.tdiv g * d1 := Int.mul_pos e2 hd1p
      have hgn : ¬ g = 0 := by omega
      have hgn' : (g == 0) = false := by rw [beq_eq_false_iff_ne]; exact hgn
      have HG := zH hg
      clear hg
      go_wp2_with fail
      refine wp_region_quiet_tail 22 (fun w' => Below (World.heap w3).size (w3) w') (by kernel_rfl) (by kernel_rfl) (Below.refl _ _).drew ?_
      simp only [List.take_succ_cons, List.take_zero, List.drop_succ_cons, List.drop_zero]
      refine WQ.out ?_
      repeat (first | (refine WQ_no (by rfl) ?_; (simp only [Act.put, zzT, zzO, zzS])) | (refine WQ_yes (by rfl) ?_; apply Exists.intro; refine ⟨fun w1 hb1 => ?_, ?_⟩; (focus (((obtain ⟨-, k0, -⟩ := HH3.out.to hb1; obtain ⟨-, k1, -⟩ := HO3.out.to hb1); have hb1 := zH hb1; go_simp); (try (go_bits; try go_simp)); (try (rw [if_pos (by omega)]; try go_simp)); (first | done | (with_reducible rfl) | exact rfl))); (simp only [Act.put, zzT, zzO, zzS])))
      refine WQ_nil ?_
      intro w1 hb1
      replace HC3 := zH (HC3.out.to hb1)
      replace HH3 := zH (HH3.out.to hb1)
      replace HB3 := zH (HB3.out.trans (hb1.mono HB3.out.size))
      have hs4 : w3.heap.size ≤ w1.heap.size := hb1.size
      clear hb1
      go_wp2_with fail
      obtain ⟨n2, d2, hnd2⟩ : ∃ n2 d2, fr (n0 * d1.tdiv g + n1 * d0.tdiv g) (d0.tdiv g * d1) = (n2, d2) := ⟨_, _, rfl⟩
      have hd2p : 0 < d2 := by have := fr_pos (n := n0 * d1.tdiv g + n1 * d0.tdiv g) m4; rw [hnd2] at this; exact this
      have HNA : Hid (nextAt (n0, d0) (ownF ks fs k) = (n2, d2)) := zH (by
        unfold nextAt ownF
        rw [HK2.out, HS.out, HND.out]
        dsimp only
        rw [HG.out]
        exact hnd2)
      refine (fraction_any (n0 * d1.tdiv g + n1 * d0.tdiv g) (d0.tdiv g * d1) _ (by omega) m4 (by omega)).mono ?_
      rintro e w5 ⟨rfl, hb5⟩
      rw [hnd2]
      dsimp only
      have HC5 := zH (HC3.out.to hb5)
      have HH5 := zH (HH3.out.to hb5)
      have HB5 := zH (HB3.out.trans (hb5.mono HB3.out.size))
      have hs5 : w1.heap.size ≤ w5.heap.size := hb5.size
      clear hb5 hnd2 m1 m2 m3 m4 e1 e2 e3 e4
      have HOWN5 := zH (owns_to HI.out.own HB5.out)
      have hsw : w.heap.size + 1 < wr.heap.size := HI.out.here.1
      obtain ⟨hh5, kh, fh⟩ := HH5.out
      go_wp2_with fail
      obtain ⟨W6, hW6⟩ : ∃ W6, (w5.setCell ⟨w.heap.size + 1, 0, none⟩ (.int .i64 n2)).setCell ⟨w.heap.size + 1, 1, none⟩ (.int .i64 d2) = W6 := ⟨_, rfl⟩
      rw [hW6]
      have hs6 : W6.heap.size = w5.heap.size := by subst hW6; simp [World.setCell]
      have HC6 : Hid (Blk W6 w.heap.size (chV (some ⟨b1, o1, none⟩) ks.length c1 (some ⟨b2, o2, none⟩) ks.length c2)) := by subst hW6; exact (HC5.out.other (p := ⟨w.heap.size + 1, 0, none⟩) (by dsimp only; omega) _).other (p := ⟨w.heap.size + 1, 1, none⟩) (by dsimp only; omega) _
      have HH6 : Hid (Blk W6 (w.heap.size + 1) #[.int .i64 n2, .int .i64 d2]) := by subst hW6; exact (HH5.out.set 0 _).set 1 _
      have HOWN6 := zH (owns_set (owns_set HOWN5.out (p := ⟨w.heap.size + 1, 0, none⟩) (x := .int .i64 n2) (by dsimp only; omega)) (p := ⟨w.heap.size + 1, 1, none⟩) (x := .int .i64 d2) (by dsimp only; omega))
      rw [hW6] at HOWN6
      have HB6 : Hid (Below w.heap.size w W6) := by subst hW6; exact ((HI.out.bel.trans (HB5.out.mono (by omega))).setCell (p := ⟨w.heap.size + 1, 0, none⟩) (by dsimp only; omega) _).setCell (p := ⟨w.heap.size + 1, 1, none⟩) (by dsimp only; omega) _
      have HQ6 := zH HB5.out.size
      clear hW6 kh fh hh1 hs3 hs4
      have hs6' : w.heap.size + 2 ≤ W6.heap.size := by have := HB5.out.size; omega
      clear hs6
      have HEQ := zH HI.out.eq
      have HLT := zH hlt
      cases hsb : (decide (-1000000000 ≤ n2) && decide (n2 ≤ 1000000000))
      · have hft : fits (n2, d2) = false := by unfold fits; dsimp only; rw [hsb]; rfl
        have HSB := zH hsb
        clear hsb
        refine (sized_any n2 1000000000 _ (by omega) (by omega)).mono ?_
        rintro e w' ⟨rfl, rfl⟩
        rw [HSB.out]
        go_wp2_with fail
        go_ret2
        unfold MovPost
        rw [MovSt.stop HEQ.out HLT.out HNA.out hft]
        exact ⟨rfl, HB6.out⟩
      · have HSB := zH hsb
        clear hsb
        by_cases hd2 : d2 ≤ 1000000000
        · have hft : fits (n2, d2) = true := by unfold fits; dsimp only; rw [HSB.out, decide_eq_true hd2]; rfl
          refine (sized_any n2 1000000000 _ (by omega) (by omega)).mono ?_
          rintro e w' ⟨rfl, rfl⟩
          rw [HSB.out]
          obtain ⟨hh6, kh, -⟩ := HH6.out
          have HROW := zH (HOWN6.out.alloc (.cells #[.int .i64 n2, .int .i64 d2] 65))
          have HNN := zH (Blk.new W6 #[.int .i64 n2, .int .i64 d2] 65).news
          have hlo := zH HOWN6.out.lt
          have hpl := HI.out.len
          have HPL := zH hpl
          have hpl' : pre.length ≤ 6 := by omega
          clear hpl
          go_wp2_with (at_builtin; (refine wpList_app (w.heap.size + 2) rtFrac rfl (.tmp 63) (.tmp 65) rfl _ _ _ rfl HROW.out ⟨W6.heap.size, 0, none⟩ 1 1 [.int .i64 n2, .int .i64 d2] rfl rfl HNN.out (ones [n2, d2]) (by unfold maxLen; omega) (by omega) (by simp; omega) ?_; intro v' w7 hown' hgrow _ _; have HO := zH hown'; have HG7 := zH hgrow; clear hown' hgrow))
          have HB7 : Hid (Below (w.heap.size + 2) W6 w7) := zH (((Below.refl _ _).alloc (show w.heap.size + 2 ≤ W6.heap.size by omega) _).grown HG7.out (by simp; omega) (fun k e => (hlo.out k e).1))
          go_roundw
          case rel =>
            refine ⟨k + 1, (n2, d2), pre ++ [(n2, d2)], by go_num, zH ⟨by omega, HC6.out.below HB7.out (by omega), HH6.out.below HB7.out (by omega), ?_, HB6.out.trans (HB7.out.mono (by omega)), MovSt.go HEQ.out HLT.out HNA.out hft, by have := HPL.out; simp; omega, ?_, hd2p, hd2⟩⟩
            · have := HO.out
              rw [List.length_append]
              simp only [fcells, List.flatMap_append] at this ⊢
              exact this
            · have := HSB.out
              simp only [Bool.and_eq_true, decide_eq_true_eq] at this
              dsimp only
              omega
          case measure => simp [intOf]; omega
        · have hft : fits (n2, d2) = false := by unfold fits; dsimp only; rw [HSB.out, decide_eq_false hd2]; rfl
          refine (sized_any n2 1000000000 _ (by omega) (by omega)).mono ?_
          rintro e w' ⟨rfl, rfl⟩
          rw [HSB.out]
          obtain ⟨hh6, kh, -⟩ := HH6.out
          go_wp2_with fail
          go_ret2
          unfold MovPost
          rw [MovSt.stop HEQ.out HLT.out HNA.out hft]
          exact ⟨rfl, HB6.out⟩
    · have : k = ks.length := by omega
      subst this
      go_wp2_with fail
      go_ret2
      unfold MovPost
      have heq := HI.out.eq
      rw [Nat.sub_self] at heq
      have heq2 : movO ks fs ks.length 0 (0, 1) = some pre := by rw [heq]; simp [movO]
      rw [heq2]
      obtain ⟨a', cap', rfl, hcp, hrd, hfr⟩ := Reads.of_row (f := fracs pre) HI.out.own (fun i hi => fcells_get pre i hi)
      exact ⟨a', cap', rfl, hcp, hrd, HI.out.bel, fun p hp => by have := hfr p hp; omega⟩

theorem MovedOf_ok (ks fs : List Int) (a1 a2 : Option Addr) (c1 c2 : Nat) (w : World) (h1 : ks.length ≤ 1000) (hc2 : fs.length ≤ c2) (hr1 : Reads w a1 ks.length (ints ks)) (hr2 : Reads w a2 fs.length (ints fs)) (he : (chkC ks fs).2 = 0) :
    Calls Try.prog 25 #[.agg (chV a1 ks.length c1 a2 fs.length c2)] w (MovPost ks fs w) := by
  have HR1 := zH hr1
  have HR2 := zH hr2
  have HC := zH (fun W h3 h4 => chainErr_any ks fs a1 a2 c1 c2 W h1 h3 h4)
  have HM := zH (fun W h3 h4 => moved_any ks fs a1 a2 c1 c2 W (chkC_zero he) hc2 h3 h4)
  rw [he] at HC
  clear hr1 hr2 he hc2
  go_enter Try.func25, Try.ntmps25
  go_wp2_with fail
  refine (HC.out _ (HR1.out.alloc _) (HR2.out.alloc _)).mono ?_
  rintro e w1 ⟨rfl, hb⟩
  have HB := zH (bThen (bAlloc (bSelf w) _) hb)
  have K := zH ((Blk.new w (chV a1 ks.length c1 a2 fs.length c2) 61).to hb)
  have HR3 := zH ((HR1.out.alloc (.cells (chV a1 ks.length c1 a2 fs.length c2) 61)).to hb)
  have HR4 := zH ((HR2.out.alloc (.cells (chV a1 ks.length c1 a2 fs.length c2) 61)).to hb)
  clear hb
  obtain ⟨-, k0, -⟩ := K.out
  go_wp2_with fail
  refine (HM.out _ HR3.out HR4.out).mono ?_
  intro e w2 hp
  unfold MovPost at hp
  cases hmv : movO ks fs ks.length 0 (0, 1) with
  | none =>
    rw [hmv] at hp
    obtain ⟨rfl, hb2⟩ := hp
    have HB2 := zH (bThen HB.out hb2)
    clear hb2
    go_wp2_with fail
    go_ret2
    unfold MovPost
    rw [hmv]
    exact ⟨rfl, HB2.out⟩
  | some l =>
    rw [hmv] at hp
    obtain ⟨a, cap, rfl, hcp, hrd, hb2, hfr⟩ := hp
    have HB2 := zH (bThen HB.out hb2)
    have HRD := zH hrd
    have HFR := zH hfr
    have HCP := zH hcp
    clear hb2 hrd hfr hcp
    go_wp2_with fail
    go_ret2
    unfold MovPost
    rw [hmv]
    exact ⟨a, cap, rfl, HCP.out, HRD.out, HB2.out, fun p hp => Nat.le_trans HB.out.size (HFR.out p hp)⟩
end
end Go.Proofs.Ytfdlhhinomjakaa
