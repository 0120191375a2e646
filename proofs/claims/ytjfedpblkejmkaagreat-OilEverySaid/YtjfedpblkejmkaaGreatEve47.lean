/-
  Texts of this claim, in their build order: R1 OR3 OW5 OM25 OW8 OW9.
-/
import Derived.Test.YtjfedpblkejmkaaGreatEve15
import Derived.Test.YtjfedpblkejmkaaGreatEve9
import Derived.Test.YtjfedpblkejmkaaGreatEve17
import Derived.Test.YtjfedpblkejmkaaGreatEve43
import Derived.Test.YtjfedpblkejmkaaGreatEve18
import Derived.Test.YtjfedpblkejmkaaGreatEve19
import Derived.Test.YtjfedpblkejmkaaGreatEve40
import Derived.Test.YtjfedpblkejmkaaGreatEve35
import Derived.Test.YtjfedpblkejmkaaGreatEve25
import Derived.Test.YtjfedpblkejmkaaGreatEve44
import Derived.Test.YtjfedpblkejmkaaGreatEve21
import Derived.Test.YtjfedpblkejmkaaGreatEve46

/-
  Contracts of the base: Mod, Compare at once, IsSmall; areLowest of the statements.
-/
namespace Go.Proofs.YtjfedpblkejmkaaGreat
open Go.RowKit

theorem mod_eq (n m : Int) (hm : 0 < m) : n % m = if n.tmod m < 0 then n.tmod m + m else n.tmod m := by
  have h1 := Int.tmod_add_mul_tdiv n m
  have h2 : (n.tmod m).natAbs < m.natAbs := by rw [Int.natAbs_tmod]; exact Nat.mod_lt _ (by omega)
  generalize n.tmod m = t at *
  generalize n.tdiv m = q at *
  rw [← h1, Int.add_mul_emod_self_left]
  by_cases h : t < 0
  · rw [if_pos h, ← Int.add_emod_right, Int.emod_eq_of_lt (by omega) (by omega)]
  · rw [if_neg h, Int.emod_eq_of_lt (by omega) (by omega)]

set_option maxHeartbeats 400000 in
theorem Mod_any (n m : Int) (w : World) (hm : 0 < m) (hm1 : m ≤ 1000) :
    Calls Tryz.prog 41 #[.int .i64 n, .int .i64 m] w fun e w' => e = .returned (.int .i64 (n % m)) ∧ w = w' := by
  have h2 : (n.tmod m).natAbs < m.natAbs := by rw [Int.natAbs_tmod]; exact Nat.mod_lt _ (by omega)
  have HE := Lib.hid (mod_eq n m hm)
  have hz : (m == 0) = false := by rw [beq_eq_false_iff_ne]; omega
  have hz2 : ¬ m = 0 := by omega
  have hng : ¬ (n = -9223372036854775808 ∧ m = -1) := by omega
  obtain ⟨r, hr⟩ : ∃ r, n % m = r := ⟨_, rfl⟩
  rw [hr] at HE ⊢
  clear hr
  obtain ⟨t, ht⟩ : ∃ t, n.tmod m = t := ⟨_, rfl⟩
  rw [ht] at HE h2
  by_cases hlt : t < 0
  · have hE : r = t + m := by rw [HE.out, if_pos hlt]
    have HR := Lib.hid hE
    clear hE
    go_enter Tryz.func41, Tryz.ntmps41
    go_wp2_with fail
    go_ret
    exact ⟨ret_int HR.out.symm, rfl⟩
  · have hE : r = t := by rw [HE.out, if_neg hlt]
    have HR := Lib.hid hE
    clear hE
    go_enter Tryz.func41, Tryz.ntmps41
    go_wp2_with fail
    go_ret
    exact ⟨ret_int HR.out.symm, rfl⟩

end Go.Proofs.YtjfedpblkejmkaaGreat

/-
  Base: WideInt, RatioFrac at small fractions, Cmp of fractions.
-/
namespace Go.Proofs.YtjfedpblkejmkaaGreat
open Go.RowKit
attribute [local go_sem] Oper.semAt_some

theorem Dig.drop {l : List Int} (h : Dig l) (n : Nat) : Dig (l.drop n) := fun d hd => h d (List.mem_of_mem_drop hd)
set_option maxHeartbeats 800000 in
set_option maxRecDepth 100000 in
theorem bCmp_any (p q : Int × Int) (w : World) (h1 : -1000000000 ≤ p.1 ∧ p.1 ≤ 1000000000) (h2 : -1000000000 ≤ p.2 ∧ p.2 ≤ 1000000000) (h3 : -1000000000 ≤ q.1 ∧ q.1 ≤ 1000000000) (h4 : -1000000000 ≤ q.2 ∧ q.2 ≤ 1000000000) :
    Calls Tryz.prog 21 #[.agg #[.int .i64 p.1, .int .i64 p.2], .agg #[.int .i64 q.1, .int .i64 q.2]] w fun e w' => e = .returned (.int .i64 (cmpQ p q)) ∧ Below w.heap.size w w' := by
  obtain ⟨a, b⟩ := p
  obtain ⟨c, d⟩ := q
  dsimp only at h1 h2 h3 h4 ⊢
  obtain ⟨m1, m2⟩ := mul_bd (A := 1000000000) (B := 1000000000) h1.1 h1.2 h4.1 h4.2
  obtain ⟨m3, m4⟩ := mul_bd (A := 1000000000) (B := 1000000000) h3.1 h3.2 h2.1 h2.2
  have HC : Hid (cmpQ (a, b) (c, d) = (a * d - c * b).sign) := Lib.hid rfl
  obtain ⟨x, hx⟩ : ∃ x, a * d = x := ⟨_, rfl⟩
  obtain ⟨y, hy⟩ : ∃ y, c * b = y := ⟨_, rfl⟩
  obtain ⟨r, hr⟩ : ∃ r, cmpQ (a, b) (c, d) = r := ⟨_, rfl⟩
  rw [hr, hx, hy] at HC
  rw [hr]
  have HX := Lib.hid hx
  have HY := Lib.hid hy
  have hc : x < y ∨ (¬ x < y ∧ y < x) ∨ (¬ x < y ∧ ¬ y < x) := by omega
  clear hr h1 h2 h3 h4
  rcases hc with g | ⟨g, g'⟩ | ⟨g, g'⟩
  all_goals
    have HG := Lib.hid g
    try have HG' := Lib.hid g'
    go_enter Tryz.func21, Tryz.ntmps21
    go_wp2_with fail
    obtain ⟨W, hW⟩ : ∃ W, (w.alloc (.cells #[.int .i64 a, .int .i64 b] 28)).alloc (.cells #[.int .i64 c, .int .i64 d] 28) = W := ⟨_, rfl⟩
    rw [hW]
    have K1 : Hid (Blk W w.heap.size #[.int .i64 a, .int .i64 b]) := by subst hW; exact Lib.hid ((Blk.new _ _ _).alloc _)
    have K2 : Hid (Blk W (w.heap.size + 1) #[.int .i64 c, .int .i64 d]) := by subst hW; exact Lib.hid (Blk.newAt _ _ _ (by simp))
    have HB : Hid (Below w.heap.size w W) := by subst hW; exact Lib.hid (bAlloc (bAlloc (bSelf w) _) _)
    clear hW
    refine wp_region_quiet_all (fun w' => Below (World.heap W).size (W) w') (by kernel_rfl) (by kernel_rfl) (Below.refl _ _).drew ?_
    refine WQ.out ?_
    repeat (first | (refine WQ_no (by rfl) ?_; (simp only [Act.put, List.setIfInBounds_toArray, List.set_cons_zero, List.set_cons_succ])) | (refine WQ_yes (by rfl) ?_; apply Exists.intro; refine ⟨fun w1 hb1 => ?_, ?_⟩; (focus (((obtain ⟨-, k1, -⟩ := K1.out.to hb1; obtain ⟨-, k2, -⟩ := K2.out.to hb1; have hx := HX.out; have hy := HY.out); have hb1 := Lib.hid hb1; go_simp); (try (go_bits; try go_simp)); (try (rw [if_pos (by omega)]; try go_simp)); (first | done | (fail) | (with_reducible rfl) | exact rfl))); (simp only [Act.put, List.setIfInBounds_toArray, List.set_cons_zero, List.set_cons_succ])))
    refine WQ_nil ?_
    intro w1 hb1
    go_wp2_with fail
    go_ret
    exact ⟨ret_int (by
      rw [HC.out]
      have := HG.out
      first | (rw [Int.sign_eq_neg_one_of_neg (by omega)]) | (have := HG'.out; rw [Int.sign_eq_one_of_pos (by omega)]) | (have := HG'.out; rw [show x - y = 0 by omega]; rfl)), bThen HB.out hb1⟩

end Go.Proofs.YtjfedpblkejmkaaGreat

/-
  Plain laws for OilPlants: what the program answers, by the errors of the plant.
-/
namespace Go.Proofs.YtjfedpblkejmkaaGreat
open Go.RowKit

theorem pl_err {p : Plt} (h : (chP p).2 = 0) (x : Int) : opSE p x = unl (wthn x 0 (capV p.pts)) 2 := by
  unfold opSE; rw [if_pos h]; rfl
theorem smF_frQ {q : Int × Int} (h : QOk q) : SmF (fr q.1 q.2) := by
  have h1 := fr_pos (n := q.1) (show 0 < q.2 from h.d0)
  have h2 := fr_bd1 (n := q.1) (m := q.2) (B := 1000000000) (by have := h.n0; have := h.n1; omega)
  have h3 := fr_bd2 (n := q.1) (m := q.2) (B := 1000000000) (by have := h.d0; have := h.d1; omega)
  exact ⟨by omega, by omega, by omega, by omega⟩
theorem pl_in {p : Plt} (h : (chP p).2 = 0) {x : Int} (hx : wthn x 0 (capV p.pts) = true) : opSE p x = 0 ∧ prsR p x = rPr p.pts x ∧ SmF (rPr p.pts x) ∧ 0 < (rPr p.pts x).2 := by
  have e1 := pl_err h x
  rw [hx] at e1
  have hp := (chP_ok h).pts
  have hw := wthn_iff.1 hx
  have e2 := rPr_eq hp hw.1 hw.2
  have hq := QOk.of_pts hp hw.1 hw.2
  refine ⟨e1, by unfold prsR; rw [e1, e2]; rfl, by rw [e2]; exact smF_frQ hq, by rw [e2]; exact fr_pos (show 0 < (prQ p.pts x).2 from hq.d0)⟩
end Go.Proofs.YtjfedpblkejmkaaGreat

/-
  CheckSafe.
-/
namespace Go.Proofs.YtjfedpblkejmkaaGreat
open Go.RowKit
structure CsI (L : List OSt) (W2 : World) (k : Nat) (W : World) : Prop where
  be : Below W2.heap.size W2 W
  bx : Blk W (W2.heap.size + 1) #[.map (some W2.heap.size)]
  st : SetW W W2.heap.size k (inS (L.take k))
theorem CsI.to {L : List OSt} {W2 : World} {k : Nat} {W W' : World} (h : CsI L W2 k W) (hb : Below W.heap.size W W') : CsI L W2 k W' := ⟨bThen h.be hb, h.bx.to hb, h.st.to hb⟩
theorem inS_snoc (l : List OSt) (s x : OSt) : (inS l x || x == s) = inS (l ++ [s]) x := by
  unfold inS
  rw [List.any_append]
  congr 1
  simp only [List.any_cons, List.any_nil, Bool.or_false]
  by_cases h : x = s
  · subst h; rfl
  · have h1 : (x == s) = false := by simpa using h
    have h2 : (s == x) = false := by simpa using fun e => h e.symm
    rw [h1, h2]
end Go.Proofs.YtjfedpblkejmkaaGreat

/-
  Plain laws for OilSafe.
-/
namespace Go.Proofs.YtjfedpblkejmkaaGreat
open Go.RowKit

theorem nodup_leS : ∀ {l u : List OSt}, l.Nodup → (∀ x ∈ l, x ∈ u) → l.length ≤ u.length
  | [], u, _, _ => by simp
  | a :: l, u, hn, hs => by
    have hn' := List.nodup_cons.1 hn
    obtain ⟨p, q, e⟩ := List.append_of_mem (hs a (List.mem_cons_self ..))
    have h1 := nodup_leS (l := l) (u := p ++ q) hn'.2 (fun x hx => by
      have h2 := hs x (List.mem_cons_of_mem _ hx)
      rw [e, List.mem_append, List.mem_cons] at h2
      rw [List.mem_append]
      rcases h2 with h | h | h
      · exact .inl h
      · subst h; exact absurd hx hn'.1
      · exact .inr h)
    rw [e]
    simp only [List.length_cons, List.length_append] at h1 ⊢
    omega
theorem srt_nodup {l : List OSt} (h : SrtS l) : l.Nodup := List.Pairwise.imp (fun {a b} hab e => by subst e; rw [ltS_irr] at hab; cases hab) h
end Go.Proofs.YtjfedpblkejmkaaGreat

/-
  Plain laws for OilEvery: what a class that empties nothing says of every demands in it.
-/
namespace Go.Proofs.YtjfedpblkejmkaaGreat
open Go.RowKit

theorem blw_up {p : Plt} {lim v u : Int} (h : PtsOk p.pts) (v0 : 0 ≤ v) (vu : v ≤ u) (u1 : u ≤ capV p.pts) (hb : lessQ (prQ p.pts v) (lim, 1) = false) : lessQ (prQ p.pts u) (lim, 1) = false := by
  rcases Int.lt_or_eq_of_le vu with h1 | rfl
  · have up := prQ_up h v0 h1 u1
    have d1 := (prQ_den h v0 (show v ≤ capV p.pts by omega)).1
    have d2 := (prQ_den h (show 0 ≤ u by omega) u1).1
    unfold lessQ at hb ⊢
    rw [decide_eq_false_iff_not, Int.mul_one] at hb ⊢
    dsimp only at hb ⊢
    have h2 : lim * (prQ p.pts v).2 ≤ (prQ p.pts v).1 := by omega
    have h3 : lim * (prQ p.pts v).2 * (prQ p.pts u).2 ≤ (prQ p.pts v).1 * (prQ p.pts u).2 := Int.mul_le_mul_of_nonneg_right h2 (by omega)
    intro h4
    have h5 : (prQ p.pts u).1 * (prQ p.pts v).2 < lim * (prQ p.pts u).2 * (prQ p.pts v).2 := Int.mul_lt_mul_of_pos_right h4 (by omega)
    have h6 : lim * (prQ p.pts u).2 * (prQ p.pts v).2 = lim * (prQ p.pts v).2 * (prQ p.pts u).2 := by rw [Int.mul_assoc, Int.mul_comm (prQ p.pts u).2, ← Int.mul_assoc]
    omega
  · exact hb
theorem ev_law {p : Plt} {s : OSt} : ∀ (rs pre : List (Int × Int)) (now : List (OSt × List Int)) (k : Int) (st r : Int × Int), LvOk p s pre now → lowF k st (tks p rs now) = some r →
    (∀ j, pre.length ≤ j → j ≤ (pre ++ rs).length → ∀ ds, inC ((pre ++ rs).take j) ds → ∃ t, goQ p s ds = some t ∧ r.2 ≤ t.1) ∧ r.2 ≤ st.2 ∧
    (r = st ∨ (k ≤ r.1 ∧ r.1 ≤ k + rs.length ∧ ∃ j ds t, j ≤ (pre ++ rs).length ∧ inC ((pre ++ rs).take j) ds ∧ goQ p s ds = some t ∧ t.1 = r.2)) := by
  intro rs
  induction rs with
  | nil =>
    intro pre now k st r h hl
    unfold tks lowF lowF at hl
    injection hl with hl
    subst hl
    obtain ⟨h1, h2, h3⟩ := lowL_spec k now st
    rw [List.append_nil]
    refine ⟨fun j hj1 hj2 ds hds => ?_, h2, ?_⟩
    · rw [show j = pre.length by omega, List.take_length] at hds
      obtain ⟨t, ht, hm⟩ := h.all ds hds
      obtain ⟨a, ha, rfl⟩ := List.mem_map.1 hm
      exact ⟨a.1, ht, h1 a ha⟩
    · rcases h3 with ⟨-, e⟩ | ⟨e1, e2, a, ha, e3⟩
      · exact .inl e
      · obtain ⟨w1, w2⟩ := h.way a ha
        exact .inr ⟨by omega, by simp; omega, pre.length, a.2, a.1, Nat.le_refl _, by rw [List.take_length]; exact w1, w2, e3⟩
  | cons r0 rs ih =>
    intro pre now k st r h hl
    unfold tks lowF at hl
    obtain ⟨h1, h2, h3⟩ := lowL_spec k now st
    cases he : (tkL p r0 now).emp with
    | some e => rw [he] at hl; dsimp only at hl; unfold lowF at hl; cases hl
    | none =>
      rw [he] at hl
      dsimp only at hl
      obtain ⟨i1, i2, i3⟩ := ih (pre ++ [r0]) _ (k + 1) (lowL k st now) r (h.next he) hl
      have e0 : (pre ++ [r0]) ++ rs = pre ++ r0 :: rs := by simp
      rw [e0] at i1 i3
      refine ⟨fun j hj1 hj2 ds hds => ?_, by omega, ?_⟩
      · by_cases hj : j = pre.length
        · subst hj
          rw [take_pre] at hds
          obtain ⟨t, ht, hm⟩ := h.all ds hds
          obtain ⟨a, ha, rfl⟩ := List.mem_map.1 hm
          exact ⟨a.1, ht, by have := h1 a ha; omega⟩
        · exact i1 j (by rw [List.length_append, List.length_singleton]; omega) hj2 ds hds
      · rcases i3 with e | ⟨e1, e2, e3⟩
        · rcases h3 with ⟨-, e'⟩ | ⟨e1, e2, a, ha, e3⟩
          · exact .inl (e.trans e')
          · obtain ⟨w1, w2⟩ := h.way a ha
            refine .inr ⟨by rw [e]; omega, by rw [e]; simp; omega, pre.length, a.2, a.1, by simp, by rw [take_pre]; exact w1, w2, by rw [e]; exact e3⟩
        · exact .inr ⟨by omega, by simp only [List.length_cons]; omega, e3⟩
theorem lst_law {p : Plt} {s : OSt} : ∀ (rs pre : List (Int × Int)) (now : List (OSt × List Int)) (o m : List OSt), LvOk p s pre now → lstA (tks p rs now) o = some m →
    (∀ ds, inC (pre ++ rs) ds → ∃ t, goQ p s ds = some t ∧ t ∈ m) ∧ ∀ t ∈ m, ∃ ds, goQ p s ds = some t := by
  intro rs
  induction rs with
  | nil =>
    intro pre now o m h hl
    unfold tks lstA lstA at hl
    injection hl with hl
    subst hl
    rw [List.append_nil]
    refine ⟨h.all, fun t ht => ?_⟩
    obtain ⟨a, ha, rfl⟩ := List.mem_map.1 ht
    exact ⟨a.2, (h.way a ha).2⟩
  | cons r0 rs ih =>
    intro pre now o m h hl
    unfold tks lstA at hl
    cases he : (tkL p r0 now).emp with
    | some e => rw [he] at hl; dsimp only at hl; unfold lstA at hl; cases hl
    | none =>
      rw [he] at hl
      dsimp only at hl
      have := ih (pre ++ [r0]) _ _ m (h.next he) hl
      rwa [show (pre ++ [r0]) ++ rs = pre ++ r0 :: rs by simp] at this
theorem prm_none {p : Plt} {lim : Int} : ∀ (rs : List (Int × Int)) (l : List OSt), rchR p l rs = none → prmR p lim l rs = false
  | [], l, h => by unfold rchR at h; cases h
  | r :: rs, l, h => by
    unfold rchR at h
    unfold prmR
    cases he : EmpB p r l with
    | true => simp
    | false =>
      rw [if_neg (by rw [he]; exact Bool.false_ne_true)] at h
      rw [prm_none rs _ h]; simp
theorem run_at {p : Plt} : ∀ {ds : List Int} {s t : OSt}, (∀ k, k < ds.length → wthn (gi ds k) 0 50 = true) → goQ p s ds = some t → ∀ i, i ≤ ds.length → goQ p s (ds.take i) = some (sg (s :: (runA p s ds).1) i)
  | [], s, t, _, h, i, hi => by
    obtain rfl : i = 0 := by simpa using hi
    rfl
  | d :: ds, s, t, hf, h, 0, hi => rfl
  | d :: ds, s, t, hf, h, i + 1, hi => by
    have h0 : wthn d 0 50 = true := hf 0 (by simp)
    have h' : (nxtA p s d).bind (fun u => goQ p u ds) = some t := h
    unfold runA
    rw [if_neg (by rw [h0]; simp)]
    cases e : nxtA p s d with
    | none => rw [e] at h'; cases h'
    | some u =>
      rw [e] at h'
      have := run_at (fun k hk => hf (k + 1) (by simp only [List.length_cons]; omega)) h' i (by simpa using hi)
      show (nxtA p s d).bind (fun x => goQ p x (ds.take i)) = _
      rw [e]
      exact this
theorem inC_take {c : List (Int × Int)} {ds : List Int} (h : inC c ds) (j : Nat) : inC (c.take j) (ds.take j) := by
  refine ⟨by rw [List.length_take, List.length_take, h.1], fun i hi => ?_⟩
  rw [List.length_take] at hi
  rw [gis_take (by omega), fgs_take (by omega)]
  exact h.2 i (by omega)
/-- The demands that xs chooses in a class. -/
def ownN (c : List (Int × Int)) (xs : List Int) (k : Nat) : List Int := (List.range k).map (ownD c xs)
theorem ownN_len {c : List (Int × Int)} {xs : List Int} {k : Nat} : (ownN c xs k).length = k := by unfold ownN; simp
theorem ownN_succ {c : List (Int × Int)} {xs : List Int} {k : Nat} : ownN c xs (k + 1) = ownN c xs k ++ [ownD c xs k] := by unfold ownN; rw [List.range_succ, List.map_append]; rfl
theorem ownN_gi {c : List (Int × Int)} {xs : List Int} {k i : Nat} (h : i < k) : gi (ownN c xs k) i = ownD c xs i := by
  unfold ownN gi
  rw [List.getD_eq_getElem?_getD, List.getElem?_map, List.getElem?_range h]; rfl
theorem ownN_in {c : List (Int × Int)} {xs : List Int} (h : ∀ k, k < c.length → (fg c k).1 ≤ (fg c k).2) : inC c (ownN c xs c.length) := by
  refine ⟨ownN_len, fun i hi => ?_⟩
  rw [ownN_gi hi]
  have := ownD_in (xs := xs) (h i hi)
  exact rngL_in this.1 this.2

theorem in_flow {c : List (Int × Int)} {ds : List Int} (hc : ∀ k, k < c.length → 0 ≤ (fg c k).1 ∧ (fg c k).2 ≤ 50 ∧ (fg c k).1 ≤ (fg c k).2) (hd : inC c ds) : ∀ k, k < ds.length → wthn (gi ds k) 0 50 = true := fun k hk => by
  have hk' : k < c.length := by have := hd.1; omega
  have h1 := mem_rngL (hd.2 k hk')
  have h2 := hc k hk'
  rw [wthn_iff]
  omega
theorem ev_none {p : Plt} {s : OSt} {c : List (Int × Int)} {lim : Int} {ds : List Int} (h : opLE p s.1 c lim = 0) (hr : rchR p [s] c = none) (hd : inC c ds) : rchE p s c = 22 ∧ lwtE p s c = 22 ∧ prmB p s c lim = false ∧ (rnR p s ds = 0 ∨ rnR p s ds = 22) := by
  have h0 : opCE p s.1 c = 0 := (firstE2.1 (show firstE [_, _] = 0 from h)).1
  obtain ⟨-, -, hl, hc⟩ := (opLE_ok h).1
  have hlow := (low_law (p := p) c [(s, [])] [s] 0 (0, s.1) (fun r hr => by
    obtain ⟨i, hi, e⟩ := List.getElem_of_mem hr
    have := hc i hi
    rw [fg_lt hi, e] at this
    exact this.2.2) (List.pairwise_singleton _ _) (by simp) (fun x => by simp [sts])).1 hr
  refine ⟨by unfold rchE; rw [if_pos h0, hr]; rfl, ?_, ?_, ?_⟩
  · unfold lwtE lowO
    rw [if_pos h0, hlow]; rfl
  · unfold prmB
    rw [if_pos h, ← prm_law c [(s, [])] [s] (fun x => by simp [sts])]
    exact prm_none c [s] hr
  · have hlen : ds.length ≤ 20 := by have := hd.1; omega
    rw [rnR_ok (opLE_parts h).1 hlen]
    cases e : goQ p s ds with
    | none => exact .inr (run_none (in_flow hc hd) e)
    | some t => exact .inl (run_some (in_flow hc hd) e).1
theorem ev_some {p : Plt} {s : OSt} {c : List (Int × Int)} {lim : Int} {ds : List Int} {m : List OSt} (h : opLE p s.1 c lim = 0) (hr : rchR p [s] c = some m) (hd : inC c ds) :
    rchE p s c = 0 ∧ rchO p s c = m ∧ m.length ≤ 402 ∧ lwtE p s c = 0 ∧ rnR p s ds = 0 ∧ (runO p s ds).length = ds.length + 1 ∧ sg (runO p s ds) ds.length ∈ m ∧
    ∃ (t v : Int), lwtA p s c = (t, rPr p.pts v) ∧ 0 ≤ v ∧ v ≤ capV p.pts ∧ 0 ≤ t ∧ t ≤ c.length ∧ (∀ i, i ≤ ds.length → StOk p (sg (runO p s ds) i) ∧ v ≤ (sg (runO p s ds) i).1) ∧ prmB p s c lim = decide (0 ≤ cmpQ (rPr p.pts v) (lim, 1)) := by
  have h0 : opCE p s.1 c = 0 := (firstE2.1 (show firstE [_, _] = 0 from h)).1
  obtain ⟨hp, hs, hl, hc⟩ := (opLE_ok h).1
  have hlow := (low_law (p := p) c [(s, [])] [s] 0 (0, s.1) (fun r hr => by
    obtain ⟨i, hi, e⟩ := List.getElem_of_mem hr
    have := hc i hi
    rw [fg_lt hi, e] at this
    exact this.2.2) (List.pairwise_singleton _ _) (by simp) (fun x => by simp [sts])).2 (by rw [hr]; simp)
  obtain ⟨⟨t, v⟩, hlo⟩ : ∃ r, lowF 0 (0, s.1) (tks p c [(s, [])]) = some r := ⟨_, hlow⟩
  clear hlow
  obtain ⟨e1, e2, e3⟩ := ev_law c [] [(s, [])] 0 (0, s.1) (t, v) (LvOk.start p s) hlo
  simp only [List.nil_append, List.length_nil] at e1 e2 e3
  obtain ⟨hms, mm, hmm, hmem⟩ := (rch_law (p := p) c [(s, [])] [s] [] (List.pairwise_singleton _ _) (fun x => by simp [sts])).2 m hr
  obtain ⟨l1, l2⟩ := lst_law c [] [(s, [])] [] mm (LvOk.start p s) hmm
  simp only [List.nil_append] at l1
  have hlen : ds.length ≤ 20 := by have := hd.1; omega
  have hf := in_flow hc hd
  obtain ⟨u, hu, hum⟩ := l1 ds hd
  obtain ⟨r1, r2, r3⟩ := run_some hf hu
  have hrn : rnR p s ds = 0 := by rw [rnR_ok (opLE_parts h).1 hlen]; exact r1
  have hro : runO p s ds = s :: (runA p s ds).1 := by unfold runO; rw [if_pos hrn]
  have hv : ∃ x : OSt, StOk p x ∧ x.1 = v ∧ ∃ j ds', j ≤ c.length ∧ inC (c.take j) ds' ∧ goQ p s ds' = some x := by
    rcases e3 with e | ⟨-, -, j, ds', x, hj, h1, h2, h3⟩
    · injection e with e4 e5
      exact ⟨s, hs, e5.symm, 0, [], Nat.zero_le _, by rw [List.take_zero]; exact inC_nil.2 rfl, rfl⟩
    · exact ⟨x, goQ_ok hs h2, h3, j, ds', hj, h1, h2⟩
  obtain ⟨x, hx, hxv, j, ds', hj, hds', hgo⟩ := hv
  have hvb : 0 ≤ v ∧ v ≤ capV p.pts := by have := hx; rw [← hxv]; exact hx
  have hcap := cap_le hp
  have hcap0 := cap_pos hp
  have hml : m.length ≤ 402 := by
    have h1 := nodup_leS (srt_nodup hms) (fun y hy => by
      obtain ⟨ds2, hg⟩ := l2 y ((hmem y).1 hy)
      exact mem_allS.2 (goQ_ok hs hg))
    rw [allS_len (by omega)] at h1
    omega
  refine ⟨by unfold rchE; rw [if_pos h0, hr]; rfl, by unfold rchO; rw [if_pos h0, hr]; rfl, hml, by unfold lwtE lowO; rw [if_pos h0, hlo]; rfl, hrn, by rw [hro, List.length_cons, r2], ?_, t, v, ?_, hvb.1, hvb.2, ?_, ?_, ?_, ?_⟩
  · rw [hro, r3]; exact (hmem u).2 hum
  · unfold lwtA lowO
    rw [if_pos h0, hlo]
    show (t, fr (prQ p.pts v).1 (prQ p.pts v).2) = _
    rw [rPr_eq hp.pts hvb.1 hvb.2]
  · rcases e3 with e | ⟨e4, -⟩
    · injection e with e5 e6; omega
    · exact e4
  · rcases e3 with e | ⟨-, e4, -⟩
    · injection e with e5 e6; omega
    · omega
  · intro i hi
    have h1 := run_at hf hu i hi
    rw [← hro] at h1
    obtain ⟨y, hy, hle⟩ := e1 i (Nat.zero_le _) (by have := hd.1; omega) (ds.take i) (inC_take hd i)
    rw [h1] at hy
    cases hy
    exact ⟨goQ_ok hs h1, hle⟩
  · have d1 := (prQ_den hp.pts hvb.1 hvb.2).1
    rw [rPr_eq hp.pts hvb.1 hvb.2, cmp_ge lim (show 0 < (prQ p.pts v).2 by omega)]
    unfold prmB
    rw [if_pos h]
    cases hb : lessQ (prQ p.pts v) (lim, 1) with
    | false =>
      have : witA p lim (tks p c [(s, [])]) = none := witA_none.2 (fun k hk ds2 hd2 => by
        obtain ⟨y, hy, hle⟩ := e1 k (Nat.zero_le _) hk ds2 hd2
        exact ⟨y, hy, blw_up hp.pts hvb.1 hle (goQ_ok hs hy).2 hb⟩)
      rw [this]; rfl
    | true =>
      cases hw : witA p lim (tks p c [(s, [])]) with
      | none =>
        obtain ⟨y, hy, hbl⟩ := witA_none.1 hw j hj ds' hds'
        rw [hgo] at hy
        cases hy
        unfold blwQ at hbl
        rw [hxv, hb] at hbl
        cases hbl
      | some o => rfl

/-- A volume whose pressure can be asked for, and is not below another one. -/
def PaF (p : Plt) (x : Int) (q : Int × Int) : Prop := opSE p x = 0 ∧ SmF (prsR p x) ∧ 0 < (prsR p x).2 ∧ 0 ≤ cmpQ (prsR p x) q
theorem ev_all {p : Plt} {s : OSt} {c : List (Int × Int)} {xs : List Int} {lim : Int} (h : opLE p s.1 c lim = 0) :
    (rchE p s c = 22 ∧ lwtE p s c = 22 ∧ prmB p s c lim = false ∧ (rnR p s (ownN c xs c.length) = 0 ∨ rnR p s (ownN c xs c.length) = 22)) ∨
    (rchE p s c = 0 ∧ (rchO p s c).length ≤ 402 ∧ lwtE p s c = 0 ∧ rnR p s (ownN c xs c.length) = 0 ∧ (runO p s (ownN c xs c.length)).length = c.length + 1 ∧ inS (rchO p s c) (sg (runO p s (ownN c xs c.length)) c.length) = true ∧
      0 ≤ (lwtA p s c).1 ∧ (lwtA p s c).1 ≤ c.length ∧ SmF (lwtA p s c).2 ∧ 0 < (lwtA p s c).2.2 ∧ (∀ i, i ≤ c.length → PaF p (sg (runO p s (ownN c xs c.length)) i).1 (lwtA p s c).2) ∧ prmB p s c lim = decide (0 ≤ cmpQ (lwtA p s c).2 (lim, 1))) := by
  obtain ⟨hp, hs, hl, hc⟩ := (opLE_ok h).1
  have hd : inC c (ownN c xs c.length) := ownN_in (fun k hk => (hc k hk).2.2)
  have hch : (chP p).2 = 0 := by
    have h1 := (opLE_parts h).1
    unfold opSE at h1
    by_cases h2 : (chP p).2 = 0
    · exact h2
    · rw [if_neg h2] at h1; exact absurd h1 h2
  cases hr : rchR p [s] c with
  | none => exact .inl (ev_none h hr hd)
  | some m =>
    obtain ⟨a1, a2, a3, a4, a5, a6, a7, t, v, a8, v0, v1, t0, t1, a9, a10⟩ := ev_some h hr hd
    rw [ownN_len] at a6 a7 a9
    obtain ⟨-, b2, b3, b4⟩ := pl_in hch (wthn_iff.2 ⟨v0, v1⟩)
    rw [a2, a8]
    refine .inr ⟨a1, a3, a4, a5, a6, inS_iff.2 a7, t0, t1, b3, b4, fun i hi => ?_, a10⟩
    obtain ⟨c1, c2⟩ := a9 i hi
    obtain ⟨d1, d2, d3, d4⟩ := pl_in hch (wthn_iff.2 c1)
    refine ⟨d1, by rw [d2]; exact d3, by rw [d2]; exact d4, ?_⟩
    rw [d2, cmpQ_up hp.pts c1.1 c1.2 v0 v1]
    rcases Int.lt_or_eq_of_le c2 with h5 | h5
    · rw [Int.sign_eq_one_of_pos (by omega)]; decide
    · rw [h5, Int.sub_self]; decide

end Go.Proofs.YtjfedpblkejmkaaGreat

