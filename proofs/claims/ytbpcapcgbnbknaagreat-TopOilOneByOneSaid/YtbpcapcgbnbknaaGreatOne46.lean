/-
  Texts of this claim, in their build order: OW13 OT2.
-/
import Derived.Test.YtbpcapcgbnbknaaGreatOne45
import Derived.Test.YtbpcapcgbnbknaaGreatOne38
import Derived.Test.YtbpcapcgbnbknaaGreatOne40
import Derived.Test.YtbpcapcgbnbknaaGreatOne44
import Derived.Test.YtbpcapcgbnbknaaGreatOne7

namespace Go.Proofs.YtbpcapcgbnbknaaGreat
section
open Go.RowKit

theorem goQ_cons {p : Plt} {s : OSt} {n : Int} {ds : List Int} : goQ p s (n :: ds) = (nxtA p s n).bind fun t => goQ p t ds := rfl
theorem rch_cons {p : Plt} {l : List OSt} {r : Int × Int} {rs : List (Int × Int)} : rchR p l (r :: rs) = if EmpB p r l = true then none else rchR p (aftR p r l) rs := rfl
theorem rch_way1 {p : Plt} : ∀ {rs : List (Int × Int)} {l m : List OSt}, rchR p l rs = some m → ∀ x ∈ m, ∃ y ∈ l, ∃ ds, inC rs ds ∧ goQ p y ds = some x
  | [], l, m, h, x, hx => by
    cases h
    exact ⟨x, hx, [], inC_nil.2 rfl, rfl⟩
  | r :: rs, l, m, h, x, hx => by
    rw [rch_cons] at h
    split at h
    · cases h
    · obtain ⟨y, hy, ds, hd, hg⟩ := rch_way1 h x hx
      obtain ⟨z, hz, n, hn, e⟩ := mem_aftR.1 hy
      exact ⟨z, hz, n :: ds, inC_cons.2 ⟨hn, hd⟩, by rw [goQ_cons, e]; exact hg⟩
theorem rch_has1 {p : Plt} : ∀ {rs : List (Int × Int)} {l m : List OSt}, rchR p l rs = some m → ∀ y ∈ l, ∀ ds, inC rs ds → ∃ x ∈ m, goQ p y ds = some x
  | [], l, m, h, y, hy, ds, hd => by
    cases h
    rw [inC_nil.1 hd]
    exact ⟨y, hy, rfl⟩
  | r :: rs, l, m, h, y, hy, ds, hd => by
    rw [rch_cons] at h
    split at h
    · cases h
    · rename_i he
      obtain ⟨n, es, rfl⟩ := inC_ex hd
      obtain ⟨hn, hf⟩ := inC_cons.1 hd
      cases e : nxtA p y n with
      | none => exact absurd (EmpB_iff.2 (show Emp p r l from ⟨y, hy, n, hn, e⟩)) he
      | some t =>
        obtain ⟨x, hx, hg⟩ := rch_has1 h t (mem_aftR.2 (show Fol p r l t from ⟨y, hy, n, hn, e⟩)) es hf
        exact ⟨x, hx, by rw [goQ_cons, e]; exact hg⟩
theorem rch_non1 {p : Plt} : ∀ {rs : List (Int × Int)} {l : List OSt}, (∀ r ∈ rs, r.1 ≤ r.2) → rchR p l rs = none → ∃ y ∈ l, ∃ ds, inC rs ds ∧ goQ p y ds = none
  | [], l, _, h => by cases h
  | r :: rs, l, hc, h => by
    rw [rch_cons] at h
    split at h
    · rename_i he
      obtain ⟨y, hy, n, hn, e⟩ := EmpB_iff.1 he
      obtain ⟨es, hes⟩ := inC_any (b := rs) (fun q hq => hc q (List.mem_cons_of_mem _ hq))
      exact ⟨y, hy, n :: es, inC_cons.2 ⟨hn, hes⟩, by rw [goQ_cons, e]; rfl⟩
    · obtain ⟨y, hy, ds, hd, hg⟩ := rch_non1 (fun q hq => hc q (List.mem_cons_of_mem _ hq)) h
      obtain ⟨z, hz, n, hn, e⟩ := mem_aftR.1 hy
      exact ⟨z, hz, n :: ds, inC_cons.2 ⟨hn, hd⟩, by rw [goQ_cons, e]; exact hg⟩
theorem rch_srt1 {p : Plt} : ∀ {rs : List (Int × Int)} {l m : List OSt}, SrtS l → rchR p l rs = some m → SrtS m
  | [], l, m, hs, h => by cases h; exact hs
  | r :: rs, l, m, hs, h => by
    rw [rch_cons] at h
    split at h
    · cases h
    · exact rch_srt1 srt_aftR h
/-- A run of demands in a valid class. -/
theorem run_cls {p : Plt} {s : OSt} {c : List (Int × Int)} {lim : Int} {ds : List Int} (h : opLE p s.1 c lim = 0) (hd : inC c ds) :
    (goQ p s ds = none → rnR p s ds = 22) ∧ ∀ t, goQ p s ds = some t → rnR p s ds = 0 ∧ (runO p s ds).length = ds.length + 1 ∧ sg (runO p s ds) ds.length = t ∧ ∀ i, i ≤ ds.length → goQ p s (ds.take i) = some (sg (runO p s ds) i) := by
  obtain ⟨hp, hs, hl, hc⟩ := (opLE_ok h).1
  have hfl : ∀ k, k < ds.length → wthn (gi ds k) 0 50 = true := fun k hk => by
    have h1 := hd.2 k (by have := hd.1; omega)
    have h2 := rngL_mem.1 h1
    have h3 := hc k (by have := hd.1; omega)
    rw [wthn_iff]
    omega
  have hrn := rnR_ok (opLE_parts h).1 (ds := ds) (by have := hd.1; omega)
  refine ⟨fun hg => by rw [hrn]; exact run_none hfl hg, fun t hg => ?_⟩
  obtain ⟨a1, a2, a3⟩ := run_some hfl hg
  have h0 : rnR p s ds = 0 := by rw [hrn]; exact a1
  have hro : runO p s ds = s :: (runA p s ds).1 := by unfold runO; rw [if_pos h0]
  rw [hro]
  exact ⟨h0, by rw [List.length_cons, a2], a3, fun i hi => run_at hfl hg i hi⟩
theorem one_law {p : Plt} {s : OSt} {c : List (Int × Int)} {lim : Int} {z : ObS} (h : opLE p s.1 c lim = 0) (hz : (allD c).foldl (obF p s lim) ⟨true, false, (0, s.1), []⟩ = z) :
    prmB p s c lim = z.kept ∧ (z.emp = true → rchE p s c = 22 ∧ lwtE p s c = 22) ∧
    (z.emp = false → rchE p s c = 0 ∧ lwtE p s c = 0 ∧ lwtA p s c = (z.tl.1, rPr p.pts z.tl.2) ∧ SrtS (rchO p s c) ∧ (∀ x, x ∈ rchO p s c ↔ x ∈ z.ends) ∧ (rchO p s c).length ≤ z.ends.length) := by
  obtain ⟨hp, hs, hl, hc⟩ := (opLE_ok h).1
  have h0 : opCE p s.1 c = 0 := (firstE2.1 (show firstE [_, _] = 0 from h)).1
  have hcr : ∀ r ∈ c, r.1 ≤ r.2 := fun r hr => by
    obtain ⟨i, hi, e⟩ := List.getElem_of_mem hr
    have := (hc i hi).2.2
    rw [fg_lt hi, e] at this
    exact this
  obtain ⟨o1, o2, o3, o4, o5, o6⟩ := ob_spec (p := p) (s := s) (lim := lim) (allD c) ⟨true, false, (0, s.1), []⟩
  rw [hz] at o1 o2 o3 o4 o5 o6
  dsimp only at o1 o2 o3 o5 o6
  rw [Bool.false_or] at o1
  rw [Bool.true_and] at o2
  have hpb : prmB p s c lim = prmR p lim [s] c := by
    unfold prmB
    rw [if_pos h, ← prm_law c [(s, [])] [s] (fun x => by simp [sts])]
  cases hr : rchR p [s] c with
  | none =>
    obtain ⟨y, hy, ds, hd, hg⟩ := rch_non1 hcr hr
    obtain rfl : y = s := by simpa using hy
    have h22 := (run_cls h hd).1 hg
    have he : z.emp = true := by
      rw [o1, List.any_eq_true]
      exact ⟨ds, mem_allD.2 hd, by rw [h22]; decide⟩
    have hk : z.kept = false := by
      rw [o2, ← Bool.not_eq_true, List.all_eq_true]
      intro hh
      have := hh ds (mem_allD.2 hd)
      rw [h22] at this
      simp at this
    obtain ⟨e1, e2, e3, -⟩ := ev_none h hr hd
    exact ⟨by rw [e3, hk], fun _ => ⟨e1, e2⟩, fun hf => by rw [he] at hf; cases hf⟩
  | some m =>
    have hall : ∀ ds, inC c ds → ∃ x ∈ m, goQ p s ds = some x := fun ds hd => rch_has1 hr s (by simp) ds hd
    have he : z.emp = false := by
      rw [o1, List.any_eq_false]
      intro ds hds
      obtain ⟨x, -, hg⟩ := hall ds (mem_allD.1 hds)
      have := ((run_cls h (mem_allD.1 hds)).2 x hg).1
      rw [this]; simp
    have hE1 : rchE p s c = 0 := by unfold rchE; rw [if_pos h0, hr]; rfl
    have hO1 : rchO p s c = m := by unfold rchO; rw [if_pos h0, hr]; rfl
    have hlow : lowO p s c ≠ none := by
      have := (low_law (p := p) c [(s, [])] [s] 0 (0, s.1) hcr (List.pairwise_singleton _ _) (by simp) (fun x => by simp [sts])).2 (by rw [hr]; simp)
      unfold lowO
      rw [this]; simp
    obtain ⟨r, hlr⟩ := Option.ne_none_iff_exists'.1 hlow
    have hE2 : lwtE p s c = 0 := by unfold lwtE; rw [if_pos h0, hlr]; rfl
    obtain ⟨f1, -, f3⟩ := ft_law (p := p) (s := s) c [] [(s, [])] 0 (0, s.1) r (LvOk.start p s) (Int.le_refl _) hlr
    rw [List.nil_append] at f1 f3
    have hrun : ∀ ds, inC c ds → rnR p s ds = 0 ∧ (runO p s ds).length = ds.length + 1 ∧ ∀ i, i ≤ ds.length → goQ p s (ds.take i) = some (sg (runO p s ds) i) := fun ds hd => by
      obtain ⟨x, -, hg⟩ := hall ds hd
      obtain ⟨a1, a2, -, a4⟩ := (run_cls h hd).2 x hg
      exact ⟨a1, a2, a4⟩
    have hle1 : ∀ j, j ≤ c.length → ∀ ds t, inC (c.take j) ds → goQ p s ds = some t → LeT r ((j : Int), t.1) := fun j hj ds t hd hg => by
      obtain ⟨t', ht', hx⟩ := f1 j (Nat.zero_le _) hj ds hd
      rw [hg] at ht'
      cases ht'
      unfold LeT
      simp only [List.length_nil, Nat.sub_zero, Int.zero_add] at hx
      exact hx
    have hzr : z.tl = r := by
      refine LeT.eq ?_ ?_
      · rcases f3 with e | ⟨j, ds, t, -, hj, e1, hd, hg, e2⟩
        · rw [e]; exact o3
        · obtain ⟨fs, hf, hft⟩ := inC_full hcr hj hd
          obtain ⟨a1, a2, a3⟩ := hrun fs hf
          have hfl : fs.length = c.length := hf.1
          have h4 := a3 j (by omega)
          rw [hft, hg] at h4
          injection h4 with h4
          have h5 := o4 fs (mem_allD.2 hf) a1 j (by omega)
          rw [← h4, e2] at h5
          simp only [List.length_nil, Nat.sub_zero, Int.zero_add] at e1
          rw [← e1] at h5
          exact h5
      · rcases o5 with e | ⟨ds, hds, a1, i, hi, e⟩
        · rw [e]
          exact hle1 0 (Nat.zero_le _) [] s (by rw [List.take_zero]; exact inC_nil.2 rfl) rfl
        · have hd := mem_allD.1 hds
          obtain ⟨b1, b2, b3⟩ := hrun ds hd
          have hdl : ds.length = c.length := hd.1
          rw [e]
          exact hle1 i (by omega) (ds.take i) _ (inC_take hd i) (b3 i (by omega))
    have hr2 : 0 ≤ r.2 ∧ r.2 ≤ capV p.pts := by
      rcases f3 with e | ⟨j, ds, t, -, -, -, -, hg, e2⟩
      · rw [e]; exact hs
      · rw [← e2]; exact goQ_ok hs hg
    refine ⟨?_, fun hf => (by rw [he] at hf; cases hf), fun _ => ⟨hE1, hE2, ?_, ?_, ?_, ?_⟩⟩
    · rw [hpb, Bool.eq_iff_iff, prm_iff, o2, List.all_eq_true]
      constructor
      · intro hh ds hds
        have hd := mem_allD.1 hds
        obtain ⟨b1, b2, b3⟩ := hrun ds hd
        rw [b1, decide_eq_true rfl, Bool.true_and, List.all_eq_true]
        intro x hx
        obtain ⟨i, hi, e⟩ := List.getElem_of_mem hx
        have hdl : ds.length = c.length := hd.1
        obtain ⟨t, ht, hb⟩ := hh i (by omega) (ds.take i) (inC_take hd i)
        rw [b3 i (by omega)] at ht
        injection ht with ht
        have e2 : sg (runO p s ds) i = x := by unfold sg; rw [List.getD_eq_getElem?_getD, List.getElem?_eq_getElem hi]; exact e
        rw [← e2, ht, hb]; rfl
      · intro hh k hk ds hd
        obtain ⟨fs, hf, hft⟩ := inC_full hcr hk hd
        obtain ⟨b1, b2, b3⟩ := hrun fs hf
        have hfl : fs.length = c.length := hf.1
        have h1 := hh fs (mem_allD.2 hf)
        rw [b1, decide_eq_true rfl, Bool.true_and, List.all_eq_true] at h1
        have h2 := b3 k (by omega)
        rw [hft] at h2
        refine ⟨_, h2, ?_⟩
        have h3 := h1 (sg (runO p s fs) k) (by unfold sg; rw [List.getD_eq_getElem?_getD, List.getElem?_eq_getElem (by omega)]; exact List.getElem_mem _)
        simpa using h3
    · unfold lwtA
      rw [if_pos h0, hlr]
      dsimp only
      rw [hzr, rPr_eq hp.pts hr2.1 hr2.2]
    · rw [hO1]
      exact rch_srt1 (List.pairwise_singleton _ _) hr
    · intro x
      rw [hO1, o6]
      constructor
      · intro hx
        obtain ⟨y, hy, ds, hd, hg⟩ := rch_way1 hr x hx
        obtain rfl : y = s := by simpa using hy
        obtain ⟨a1, a2, a3, -⟩ := (run_cls h hd).2 x hg
        exact .inr ⟨ds, mem_allD.2 hd, a1, a3.symm⟩
      · rintro (hx | ⟨ds, hds, -, rfl⟩)
        · simp at hx
        · have hd := mem_allD.1 hds
          obtain ⟨y, hy, hg⟩ := hall ds hd
          obtain ⟨-, -, a3, -⟩ := (run_cls h hd).2 y hg
          rw [a3]; exact hy
    · have hs1 : SrtS (rchO p s c) := by rw [hO1]; exact rch_srt1 (List.pairwise_singleton _ _) hr
      refine nodup_leS (srt_nodup hs1) (fun x hx => ?_)
      rw [hO1] at hx
      rw [o6]
      obtain ⟨y, hy, ds, hd, hg⟩ := rch_way1 hr x hx
      obtain rfl : y = s := by simpa using hy
      obtain ⟨a1, a2, a3, -⟩ := (run_cls h hd).2 x hg
      exact .inr ⟨ds, mem_allD.2 hd, a1, a3.symm⟩
end
section
open Go.RowKit

def ll (L : List (List Int)) (i : Nat) : List Int := L.getD i []
theorem ll_lt {L : List (List Int)} {i : Nat} (h : i < L.length) : ll L i = L[i] := by simp [ll, h]
theorem ll_mem {L : List (List Int)} {i : Nat} (h : i < L.length) : ll L i ∈ L := by rw [ll_lt h]; exact List.getElem_mem h
theorem ll_app1 {L M : List (List Int)} {i : Nat} (h : i < L.length) : ll (L ++ M) i = ll L i := by
  unfold ll; rw [List.getD_eq_getElem?_getD, List.getD_eq_getElem?_getD, List.getElem?_append_left h]
theorem ll_app2 (L : List (List Int)) (x : List Int) : ll (L ++ [x]) L.length = x := by
  unfold ll; rw [List.getD_eq_getElem?_getD, List.getElem?_append_right (Nat.le_refl _), Nat.sub_self]; rfl
theorem take_ll {L : List (List Int)} {k : Nat} (h : k < L.length) : L.take (k + 1) = L.take k ++ [ll L k] := by
  rw [List.take_succ_eq_append_getElem h, ll_lt h]
/-- All demands of the first ranges. -/
def lsP (c : List (Int × Int)) (i : Nat) : List (List Int) := (c.take i).foldl allN [[]]
theorem lsP_zero (c : List (Int × Int)) : lsP c 0 = [[]] := rfl
theorem lsP_all (c : List (Int × Int)) : lsP c c.length = allD c := by unfold lsP allD; rw [List.take_length]
theorem lsP_succ {c : List (Int × Int)} {i : Nat} (h : i < c.length) : lsP c (i + 1) = allN (lsP c i) (fg c i) := by
  unfold lsP
  rw [List.take_succ_eq_append_getElem h, List.foldl_append, fg_lt h]
  rfl
theorem rngLn (r : Int × Int) : (rngL r).length = (r.2 - r.1 + 1).toNat := by unfold rngL; simp
theorem rngGt {r : Int × Int} {j : Nat} (h : j < (rngL r).length) : (rngL r)[j] = r.1 + (j : Int) := by
  have h2 : (rngL r)[j]? = some (r.1 + (j : Int)) := by
    rw [rngLn] at h
    unfold rngL
    rw [List.getElem?_map, List.getElem?_range h]
    rfl
  rw [List.getElem?_eq_getElem h] at h2
  exact Option.some.inj h2
/-- The lists that a round has made: all of the first ones, and of one more the first demands. -/
def lsJ (L : List (List Int)) (r : Int × Int) (k j : Nat) : List (List Int) := allN (L.take k) r ++ ((rngL r).take j).map fun n => ll L k ++ [n]
theorem lsJ_zero (L : List (List Int)) (r : Int × Int) (k : Nat) : lsJ L r k 0 = allN (L.take k) r := by unfold lsJ; simp
theorem lsJ_full (L : List (List Int)) (r : Int × Int) {k : Nat} (h : k < L.length) {j : Nat} (hj : (rngL r).length ≤ j) : lsJ L r k j = allN (L.take (k + 1)) r := by
  unfold lsJ
  rw [List.take_of_length_le hj, take_ll h]
  unfold allN
  rw [List.flatMap_append]
  simp
theorem lsJ_succ (L : List (List Int)) (r : Int × Int) (k : Nat) {j : Nat} (hj : j < (rngL r).length) : lsJ L r k (j + 1) = lsJ L r k j ++ [ll L k ++ [r.1 + (j : Int)]] := by
  unfold lsJ
  rw [List.take_succ_eq_append_getElem hj, List.map_append, List.append_assoc, rngGt hj]
  rfl
theorem allN_len (r : Int × Int) : ∀ (L : List (List Int)), (allN L r).length = L.length * (rngL r).length
  | [] => by simp [allN]
  | x :: L => by
    have := allN_len r L
    unfold allN at *
    rw [List.flatMap_cons, List.length_append, List.length_map, this, List.length_cons, Nat.succ_mul]
    omega
theorem lsJ_len {L : List (List Int)} {r : Int × Int} {k j : Nat} (h3 : r.2 - r.1 ≤ 3) (hk : k < L.length) : (lsJ L r k j).length ≤ 4 * L.length := by
  unfold lsJ
  rw [List.length_append, List.length_map, allN_len, List.length_take, List.length_take]
  have h4 : (rngL r).length ≤ 4 := by rw [rngLn]; omega
  have h5 : min k L.length * (rngL r).length ≤ k * 4 := Nat.mul_le_mul (Nat.min_le_left _ _) h4
  omega
theorem lsP_len {c : List (Int × Int)} (h3 : ∀ k, k < c.length → (fg c k).2 - (fg c k).1 ≤ 3) : ∀ (i : Nat), i ≤ c.length → (lsP c i).length ≤ 4 ^ i
  | 0, _ => by rw [lsP_zero]; simp
  | i + 1, h => by
    rw [lsP_succ (by omega), allN_len, Nat.pow_succ]
    exact Nat.mul_le_mul (lsP_len h3 i (by omega)) (by rw [rngLn]; have := h3 i (by omega); omega)
theorem lsP_64 {c : List (Int × Int)} {i : Nat} (h3 : ∀ k, k < i → (fg c k).2 - (fg c k).1 ≤ 3) (hi : i ≤ c.length) (hc : c.length ≤ 3) : (lsP c i).length ≤ 64 := by
  have h0 : lsP c i = lsP (c.take i) i := by unfold lsP; rw [List.take_take, Nat.min_self]
  have hl : (c.take i).length = i := by rw [List.length_take]; omega
  have h1 := lsP_len (c := c.take i) (fun k hk => by rw [hl] at hk; rw [fgs_take hk]; exact h3 k hk) i (by omega)
  rw [h0]
  have h2 : 4 ^ i ≤ 4 ^ 3 := Nat.pow_le_pow_right (by omega) (by omega)
  omega
theorem lsP_in {c : List (Int × Int)} {i : Nat} (hi : i ≤ c.length) {ds : List Int} (h : ds ∈ lsP c i) : ds.length = i := by
  have := (mem_allD' (c.take i) [] [[]] (fun ds => by rw [inC_nil]; simp) ds).1 h
  rw [List.nil_append] at this
  have h1 := this.1
  rw [List.length_take] at h1
  omega
/-- The loop over a run, step by step. -/
theorem obT_snoc : ∀ (l : List OSt) (t : Nat) (st : Int × Int) (x : OSt), obT t st (l ++ [x]) = if x.1 < (obT t st l).2 ∨ (x.1 = (obT t st l).2 ∧ ((t + l.length : Nat) : Int) < (obT t st l).1) then (((t + l.length : Nat) : Int), x.1) else obT t st l
  | [], t, st, x => by
    show obT (t + 1) (if x.1 < st.2 ∨ (x.1 = st.2 ∧ (t : Int) < st.1) then ((t : Int), x.1) else st) [] = _
    rfl
  | y :: l, t, st, x => by
    have e : ∀ m, obT t st (y :: m) = obT (t + 1) (if y.1 < st.2 ∨ (y.1 = st.2 ∧ (t : Int) < st.1) then ((t : Int), y.1) else st) m := fun m => rfl
    rw [List.cons_append, e, e, obT_snoc l (t + 1), List.length_cons, show t + 1 + l.length = t + (l.length + 1) by omega]
theorem sg_lt' {l : List OSt} {i : Nat} (h : i < l.length) : sg l i = l[i] := by unfold sg; rw [List.getD_eq_getElem?_getD, List.getElem?_eq_getElem h]; rfl
theorem obT_take {l : List OSt} {st : Int × Int} {k : Nat} (h : k < l.length) :
    obT 0 st (l.take (k + 1)) = if (sg l k).1 < (obT 0 st (l.take k)).2 ∨ ((sg l k).1 = (obT 0 st (l.take k)).2 ∧ (k : Int) < (obT 0 st (l.take k)).1) then ((k : Int), (sg l k).1) else obT 0 st (l.take k) := by
  rw [List.take_succ_eq_append_getElem h, obT_snoc, ← sg_lt' h, List.length_take, Nat.min_eq_left (by omega), Nat.zero_add]
theorem obT_in {l : List OSt} {st : Int × Int} {A B : Int} (h0 : A ≤ st.2 ∧ st.2 ≤ B) (h : ∀ i, i < l.length → A ≤ (sg l i).1 ∧ (sg l i).1 ≤ B) (k : Nat) : A ≤ (obT 0 st (l.take k)).2 ∧ (obT 0 st (l.take k)).2 ≤ B := by
  rcases (obT_spec (l.take k) 0 st).2.2 with e | ⟨i, hi, e⟩
  · rw [e]; exact h0
  · rw [e]
    rw [List.length_take] at hi
    have h1 : sg (l.take k) i = sg l i := by
      rw [sg_lt' (by rw [List.length_take]; omega), sg_lt' (by omega), List.getElem_take]
    dsimp only
    rw [h1]
    exact h i (by omega)
/-- The loop over all runs, step by step. -/
def zS (s : OSt) : ObS := ⟨true, false, (0, s.1), []⟩
def zI (p : Plt) (s : OSt) (lim : Int) (L : List (List Int)) (i : Nat) : ObS := (L.take i).foldl (obF p s lim) (zS s)
theorem zI_full (p : Plt) (s : OSt) (lim : Int) (L : List (List Int)) : zI p s lim L L.length = L.foldl (obF p s lim) (zS s) := by unfold zI; rw [List.take_length]
theorem zI_succ {p : Plt} {s : OSt} {lim : Int} {L : List (List Int)} {i : Nat} (h : i < L.length) : zI p s lim L (i + 1) = obF p s lim (zI p s lim L i) (ll L i) := by
  unfold zI
  rw [take_ll h, List.foldl_append]
  rfl
theorem obF_ok {p : Plt} {s : OSt} {lim : Int} {z : ObS} {ds : List Int} (h : rnR p s ds = 0) : obF p s lim z ds = ⟨z.kept && (runO p s ds).all (fun x => !blwQ p lim x), z.emp, obT 0 z.tl (runO p s ds), z.ends ++ [sg (runO p s ds) ds.length]⟩ := by unfold obF; rw [if_pos h]
theorem obF_no {p : Plt} {s : OSt} {lim : Int} {z : ObS} {ds : List Int} (h : rnR p s ds ≠ 0) : obF p s lim z ds = ⟨false, true, z.tl, z.ends⟩ := by unfold obF; rw [if_neg h]
/-- One run: what the loop's body wants of it. -/
theorem run_one {p : Plt} {s : OSt} {c : List (Int × Int)} {lim : Int} {i : Nat} (h : opLE p s.1 c lim = 0) (hi : i < (allD c).length) :
    (ll (allD c) i).length = c.length ∧ ((rnR p s (ll (allD c) i) = 22) ∨ (rnR p s (ll (allD c) i) = 0 ∧ (runO p s (ll (allD c) i)).length = c.length + 1 ∧ ∀ k, k < c.length + 1 → StOk p (sg (runO p s (ll (allD c) i)) k))) := by
  have hm := mem_allD.1 (ll_mem hi)
  obtain ⟨h1, h2⟩ := run_cls h hm
  refine ⟨hm.1, ?_⟩
  cases hg : goQ p s (ll (allD c) i) with
  | none => exact .inl (h1 hg)
  | some t =>
    obtain ⟨a1, a2, a3, a4⟩ := h2 t hg
    refine .inr ⟨a1, by rw [a2, hm.1], fun k hk => ?_⟩
    exact goQ_ok (opLE_ok h).1.2.1 (a4 k (by rw [hm.1]; omega))
theorem zI_low {p : Plt} {s : OSt} {c : List (Int × Int)} {lim : Int} (h : opLE p s.1 c lim = 0) : ∀ (i : Nat), i ≤ (allD c).length → 0 ≤ (zI p s lim (allD c) i).tl.2 ∧ (zI p s lim (allD c) i).tl.2 ≤ capV p.pts
  | 0, _ => (opLE_ok h).1.2.1
  | i + 1, hi => by
    have ih := zI_low h i (by omega)
    rw [zI_succ (by omega)]
    obtain ⟨-, h1 | ⟨h1, h2, h3⟩⟩ := run_one h (i := i) (by omega)
    · rw [obF_no (by rw [h1]; decide)]; exact ih
    · rw [obF_ok h1]
      dsimp only
      have := obT_in (l := runO p s (ll (allD c) i)) (st := (zI p s lim (allD c) i).tl) (A := 0) (B := capV p.pts) ih (fun k hk => h3 k (by rw [h2] at hk; exact hk)) (runO p s (ll (allD c) i)).length
      rwa [List.take_length] at this
theorem zI_ends {p : Plt} {s : OSt} {lim : Int} {L : List (List Int)} {i : Nat} : (zI p s lim L i).ends.length ≤ i := by
  have := ob_len (p := p) (s := s) (lim := lim) (L.take i) (zS s)
  rw [List.length_take] at this
  unfold zI
  have h0 : (zS s).ends.length = 0 := rfl
  omega
theorem srtA_at {l : List OSt} (h : SrtS l) {k : Nat} (hk : k + 1 < l.length) : ltS (sg l k) (sg l (k + 1)) = true := by
  have := (List.pairwise_iff_getElem.1 h) k (k + 1) (by omega) hk (by omega)
  rw [sg_lt' (by omega), sg_lt' hk]
  exact this
theorem inSA_at {l : List OSt} {k : Nat} (h : k < l.length) : inS l (sg l k) = true := by
  rw [inS_iff, sg_lt' h]
  exact List.getElem_mem h
theorem inSA_no {l : List OSt} {s : OSt} (h : ∀ j, j < l.length → sg l j ≠ s) : inS l s = false := by
  rw [← Bool.not_eq_true, inS_iff]
  intro hm
  obtain ⟨j, hj, e⟩ := List.getElem_of_mem hm
  exact h j hj (by rw [sg_lt' hj]; exact e)
/-- What the law's end wants. -/
structure OneEnd (p : Plt) (s : OSt) (c : List (Int × Int)) (lim : Int) (z : ObS) : Prop where
  prm : prmB p s c lim = z.kept
  emp : z.emp = true → rchE p s c = 22 ∧ lwtE p s c = 22
  non : z.emp = false → rchE p s c = 0 ∧ lwtE p s c = 0 ∧ (lwtA p s c).1 = z.tl.1 ∧ 0 < (lwtA p s c).2.2 ∧ (lwtA p s c).2.2 ≤ 1000000000 ∧ -1000000000 ≤ (lwtA p s c).2.1 ∧ (lwtA p s c).2.1 ≤ 1000000000 ∧ fr (lwtA p s c).2.1 (lwtA p s c).2.2 = rPr p.pts z.tl.2 ∧ (rchO p s c).length ≤ z.ends.length ∧ (∀ i, i + 1 < (rchO p s c).length → ltS (sg (rchO p s c) i) (sg (rchO p s c) (i + 1)) = true) ∧ (∀ i, i < (rchO p s c).length → inS z.ends (sg (rchO p s c) i) = true) ∧ ∀ i, i < z.ends.length → inS (rchO p s c) (sg z.ends i) = true

theorem fr_fr {n m : Int} (hm : 0 < m) : fr (fr n m).1 (fr n m).2 = fr n m := by
  rw [fr_ediv (fr n m).1, fr_low n hm]
  simp
theorem chP_opL {p : Plt} {s : OSt} {c : List (Int × Int)} {lim : Int} (h : opLE p s.1 c lim = 0) : (chP p).2 = 0 := by
  have h1 := (opLE_parts h).1
  unfold opSE at h1
  by_cases h2 : (chP p).2 = 0
  · exact h2
  · rw [if_neg h2] at h1; exact absurd h1 h2
theorem one_end {p : Plt} {s : OSt} {c : List (Int × Int)} {lim : Int} (h : opLE p s.1 c lim = 0) : OneEnd p s c lim (zI p s lim (allD c) (allD c).length) := by
  obtain ⟨h1, h2, h3⟩ := one_law (p := p) (s := s) (c := c) (lim := lim) h (z := zI p s lim (allD c) (allD c).length) (zI_full ..).symm
  refine ⟨h1, h2, fun he => ?_⟩
  obtain ⟨e1, e2, e3, e4, e5, e6⟩ := h3 he
  obtain ⟨l0, l1⟩ := zI_low h (allD c).length (Nat.le_refl _)
  obtain ⟨-, q2, q3, q4⟩ := pl_in (p := p) (x := (zI p s lim (allD c) (allD c).length).tl.2) (chP_opL h) (wthn_iff.2 ⟨l0, l1⟩)
  have q5 := prQ_den (opLE_ok h).1.1.pts l0 l1
  refine ⟨e1, e2, ?_, ?_, ?_, ?_, ?_, ?_, e6, fun i hi => srtA_at e4 hi, fun i hi => ?_, fun i hi => ?_⟩
  · rw [e3]
  · rw [e3]; exact q4
  · rw [e3]; exact q3.d1
  · rw [e3]; exact q3.n0
  · rw [e3]; exact q3.n1
  · rw [e3]
    dsimp only
    rw [rPr_eq (opLE_ok h).1.1.pts l0 l1, fr_fr (by omega)]
  · rw [inS_iff, ← e5]; rw [sg_lt' hi]; exact List.getElem_mem hi
  · rw [inS_iff, e5]; rw [sg_lt' hi]; exact List.getElem_mem hi
/-- A state's pressure, as the program tells it, beside the limit. -/
theorem abv_one {p : Plt} {x : OSt} {lim : Int} (h : (chP p).2 = 0) (hx : StOk p x) : stE p x.1 = 0 ∧ opSE p x.1 = 0 ∧ SmF (prsR p x.1) ∧ 0 < (prsR p x.1).2 ∧ decide (cmpQ (prsR p x.1) (lim, 1) < 0) = blwQ p lim x := by
  obtain ⟨a1, a2, a3, a4⟩ := pl_in (p := p) (x := x.1) h (wthn_iff.2 hx)
  have q5 := prQ_den (chP_ok h).pts hx.1 hx.2
  refine ⟨?_, a1, by rw [a2]; exact a3, by rw [a2]; exact a4, ?_⟩
  · unfold stE; rw [wthn_iff.2 hx]; rfl
  · rw [a2, rPr_eq (chP_ok h).pts hx.1 hx.2, cmp_lt lim (by omega)]
    rfl

theorem all_sgT {q : OSt → Bool} {l : List OSt} (h : ∀ j, j < l.length → q (sg l j) = false) : l.all (fun x => !q x) = true := by
  rw [List.all_eq_true]
  intro x hx
  obtain ⟨i, hi, e⟩ := List.getElem_of_mem hx
  have := h i hi
  rw [sg_lt' hi, e] at this
  rw [this]; rfl
theorem all_sgF {q : OSt → Bool} {l : List OSt} {k : Nat} (hk : k < l.length) (h : q (sg l k) = true) : l.all (fun x => !q x) = false := by
  rw [← Bool.not_eq_true, List.all_eq_true]
  intro hh
  have h1 := hh (sg l k) (by rw [sg_lt' hk]; exact List.getElem_mem hk)
  rw [h] at h1
  cases h1
end
end Go.Proofs.YtbpcapcgbnbknaaGreat
