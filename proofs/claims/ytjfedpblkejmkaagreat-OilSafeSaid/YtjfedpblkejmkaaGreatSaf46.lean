/-
  Texts of this claim, in their build order: OW8 R1.
-/
import Derived.Test.YtjfedpblkejmkaaGreatSaf44
import Derived.Test.YtjfedpblkejmkaaGreatSaf45
import Derived.Test.YtjfedpblkejmkaaGreatSaf22
import Derived.Test.YtjfedpblkejmkaaGreatSaf16

/-
  Plain laws for OilSafe.
-/
namespace Go.Proofs.YtjfedpblkejmkaaGreat
open Go.RowKit

theorem nodup_leS : ∀ {l u : List OSt}, l.Nodup → (∀ x ∈ l, x ∈ u) → l.length ≤ u.length
  | [], u, _, _ => by simp
  | a :: l, u, hn, hs => by
    have hn' := List.nodup_cons.1 hn
    obtain ⟨p, q, e⟩ := List.append_of_mem (hs a (List.mem_cons_self ..))
    have h1 := nodup_leS (l := l) (u := p ++ q) hn'.2 (fun x hx => by
      have h2 := hs x (List.mem_cons_of_mem _ hx)
      rw [e, List.mem_append, List.mem_cons] at h2
      rw [List.mem_append]
      rcases h2 with h | h | h
      · exact .inl h
      · subst h; exact absurd hx hn'.1
      · exact .inr h)
    rw [e]
    simp only [List.length_cons, List.length_append] at h1 ⊢
    omega
theorem srt_nodup {l : List OSt} (h : SrtS l) : l.Nodup := List.Pairwise.imp (fun {a b} hab e => by subst e; rw [ltS_irr] at hab; cases hab) h
theorem saf_len {p : Plt} {r : Int × Int} {lim : Int} (hp : PltOk p) (hc : capV p.pts ≤ 15) : (safS p r lim).length ≤ 32 := by
  have h1 := nodup_leS (srt_nodup (saf_srt p r lim)) (fun x hx => mem_allS.2 (saf_ok hx))
  rw [allS_len (by have := cap_pos hp; omega)] at h1
  have := cap_pos hp
  omega
theorem opRE_of {p : Plt} {r : Int × Int} {lim : Int} (h1 : (chP p).2 = 0) (h2 : rgE r = 0) (h3 : unl (wthn lim 0 1000) 2 = 0) : opRE p r lim = 0 := firstE3.2 ⟨h1, h2, h3⟩
theorem sg_mem {l : List OSt} {k : Nat} (h : k < l.length) : sg l k ∈ l := by
  unfold sg
  rw [List.getD_eq_getElem?_getD, List.getElem?_eq_getElem h]
  exact List.getElem_mem h
theorem srt_at {l : List OSt} (h : SrtS l) {k : Nat} (hk : k + 1 < l.length) : ltS (sg l k) (sg l (k + 1)) = true := by
  have := (List.pairwise_iff_getElem.1 h) k (k + 1) (by omega) hk (by omega)
  unfold sg
  rw [List.getD_eq_getElem?_getD, List.getD_eq_getElem?_getD, List.getElem?_eq_getElem (by omega : k < l.length), List.getElem?_eq_getElem hk]
  exact this
/-- The safe states are accepted. -/
theorem cs_saf {p : Plt} {r : Int × Int} {lim : Int} (h : opRE p r lim = 0) : csR p r lim (safS p r lim) = (0, 0) := by
  have hE : eachR (csE p (safS p r lim)) 0 (safS p r lim).length = (0, 0) := eachR_all _ _ (fun k _ hk => by
    rw [Nat.zero_add] at hk
    refine firstE2.2 ⟨by rw [unlZ (by decide), wthn_iff]; exact saf_ok (sg_mem hk), ?_⟩
    rw [unlZ (by decide), Bool.or_eq_true, decide_eq_true_eq]
    by_cases h0 : k = 0
    · exact .inl h0
    · refine .inr ?_
      rw [ordI_lt]
      obtain ⟨j, rfl⟩ : ∃ j, k = j + 1 := ⟨k - 1, by omega⟩
      exact srt_at (saf_srt p r lim) hk)
  unfold csR
  rw [if_pos h, hE, if_pos rfl]
  exact eachR_all _ _ (fun k _ hk => saf_clo p r lim _ (inS_iff.2 (sg_mem (by rw [Nat.zero_add] at hk; exact hk))))
/-- What is accepted lies within them. -/
theorem cs_in {p : Plt} {r : Int × Int} {lim : Int} {Y : List OSt} (h : opRE p r lim = 0) (hy : (csR p r lim Y).2 = 0) {k : Nat} (hk : k < Y.length) : inS (safS p r lim) (sg Y k) = true := by
  unfold csR at hy
  rw [if_pos h] at hy
  by_cases hE : (eachR (csE p Y) 0 Y.length).2 = 0
  · rw [if_pos hE] at hy
    have hst : ∀ j, j < Y.length → StOk p (sg Y j) := fun j hj => csE_ok (eachR_ok _ _ hE j (Nat.zero_le _) (by omega))
    have hjd : ∀ j, j < Y.length → jdg p r lim (sg Y j) (inS Y) = 0 := fun j hj => eachR_ok (err := fun k => jdg p r lim (sg Y k) (inS Y)) _ _ hy j (Nat.zero_le _) (by omega)
    have hat : ∀ x, inS Y x = true → ∃ j, j < Y.length ∧ sg Y j = x := fun x hx => by
      obtain ⟨j, hj, e⟩ := List.getElem_of_mem (inS_iff.1 hx)
      refine ⟨j, hj, ?_⟩
      unfold sg
      rw [List.getD_eq_getElem?_getD, List.getElem?_eq_getElem hj]
      exact e
    have hclo : Clo p r lim (inS Y) := fun x hx => by
      obtain ⟨j, hj, rfl⟩ := hat x hx
      exact hjd j hj
    exact inS_iff.2 (saf_top hclo (fun x hx => by obtain ⟨j, hj, rfl⟩ := hat x hx; exact hst j hj) (sg Y k) (inS_iff.2 (sg_mem hk)))
  · rw [if_neg hE] at hy
    exact absurd hy hE

/-- The class of one range, and demands of it. -/
def cnL (r : Int × Int) : Nat → List (Int × Int)
  | 0 => []
  | k + 1 => cnL r k ++ [r]
def dmL (r : Int × Int) (ys : List Int) : Nat → List Int
  | 0 => []
  | k + 1 => dmL r ys k ++ [r.1 + gi ys k % (r.2 - r.1 + 1)]
theorem cnL_len (r : Int × Int) : ∀ k, (cnL r k).length = k
  | 0 => rfl
  | k + 1 => by unfold cnL; rw [List.length_append, cnL_len r k]; rfl
theorem dmL_len (r : Int × Int) (ys : List Int) : ∀ k, (dmL r ys k).length = k
  | 0 => rfl
  | k + 1 => by unfold dmL; rw [List.length_append, dmL_len r ys k]; rfl
theorem cnL_mem (r : Int × Int) : ∀ k, ∀ q ∈ cnL r k, q = r
  | 0, q, h => by cases h
  | k + 1, q, h => by
    unfold cnL at h
    rcases List.mem_append.1 h with h | h
    · exact cnL_mem r k q h
    · simpa using h
theorem dmL_mem {r : Int × Int} {ys : List Int} (hr : r.1 ≤ r.2) : ∀ k, ∀ d ∈ dmL r ys k, d ∈ rngL r
  | 0, d, h => by cases h
  | k + 1, d, h => by
    unfold dmL at h
    rcases List.mem_append.1 h with h | h
    · exact dmL_mem hr k d h
    · have e : d = r.1 + gi ys k % (r.2 - r.1 + 1) := by simpa using h
      have h1 := Int.emod_nonneg (gi ys k) (show r.2 - r.1 + 1 ≠ 0 by omega)
      have h2 := Int.emod_lt_of_pos (gi ys k) (show 0 < r.2 - r.1 + 1 by omega)
      exact rngL_in (by omega) (by omega)
theorem cn_cells (r : Int × Int) (k : Nat) : fcells (cnL r (k + 1)) = fcells (cnL r k) ++ [.int .i64 r.1, .int .i64 r.2] := by
  show fcells (cnL r k ++ [_]) = _
  unfold fcells
  rw [List.flatMap_append]
  rfl
theorem dm_cells (r : Int × Int) (ys : List Int) (k : Nat) : ((dmL r ys (k + 1)).map fun z => Value.int .i64 z) = ((dmL r ys k).map fun z => Value.int .i64 z) ++ [.int .i64 (r.1 + gi ys k % (r.2 - r.1 + 1))] := by
  show ((dmL r ys k ++ [_]).map _) = _
  rw [List.map_append]
  rfl
theorem cn_err {p : Plt} {s : OSt} {r : Int × Int} {lim : Int} {k : Nat} (h1 : (chP p).2 = 0) (h2 : rgE r = 0) (h3 : unl (wthn lim 0 1000) 2 = 0) (hs : StOk p s) (hk : k ≤ 20) : opLE p s.1 (cnL r k) lim = 0 := by
  have hse : opSE p s.1 = 0 := by
    unfold opSE
    rw [if_pos h1, unlZ (by decide)]
    have h : 0 ≤ s.1 ∧ s.1 ≤ capV p.pts := hs
    simp [h.1, h.2]
  have hr := rgE_ok h2
  refine firstE2.2 ⟨firstE2.2 ⟨hse, chCl_of (by rw [cnL_len]; exact hk) (fun j hj => ?_)⟩, h3⟩
  have hm : fg (cnL r k) j ∈ cnL r k := by
    unfold fg
    rw [List.getD_eq_getElem?_getD, List.getElem?_eq_getElem hj]
    exact List.getElem_mem hj
  rw [cnL_mem r k _ hm]
  exact hr
theorem cn_prm {p : Plt} {s : OSt} {r : Int × Int} {lim : Int} {k : Nat} (h : opLE p s.1 (cnL r k) lim = 0) (hs : inS (safS p r lim) s = true) : prmB p s (cnL r k) lim = true := by
  unfold prmB
  rw [if_pos h]
  have : witA p lim (tks p (cnL r k) [(s, [])]) = none := witA_none.2 fun j _ ds hd => by
    obtain ⟨t, h1, -, h3⟩ := clo_go (saf_clo p r lim) ds s hs (inC_all (fun q hq => cnL_mem r k q (List.mem_of_mem_take hq)) hd)
    exact ⟨t, h1, h3⟩
  rw [this]
  rfl
theorem dm_run {p : Plt} {s : OSt} {r : Int × Int} {lim : Int} {ys : List Int} {k : Nat} (h0 : opSE p s.1 = 0) (hr : 0 ≤ r.1 ∧ r.2 ≤ 50 ∧ r.1 ≤ r.2) (hs : inS (safS p r lim) s = true) (hk : k ≤ 20) :
    rnR p s (dmL r ys k) = 0 ∧ (runO p s (dmL r ys k)).length = k + 1 ∧ inS (safS p r lim) (sg (runO p s (dmL r ys k)) k) = true := by
  have hm := dmL_mem (ys := ys) hr.2.2 k
  have hl := dmL_len r ys k
  obtain ⟨t, h1, h2, -⟩ := clo_go (saf_clo p r lim) (dmL r ys k) s hs hm
  have hf : ∀ j, j < (dmL r ys k).length → wthn (gi (dmL r ys k) j) 0 50 = true := fun j hj => by
    have := mem_rngL (hm (gi (dmL r ys k) j) (by rw [gi_lt hj]; exact List.getElem_mem hj))
    rw [wthn_iff]
    omega
  obtain ⟨e1, e2, e3⟩ := run_some hf h1
  have e4 : rnR p s (dmL r ys k) = 0 := by rw [rnR_ok h0 (by rw [hl]; exact hk)]; exact e1
  have e5 : runO p s (dmL r ys k) = s :: (runA p s (dmL r ys k)).1 := by unfold runO; rw [if_pos e4]
  rw [hl] at e2 e3
  rw [e5]
  exact ⟨e4, by rw [List.length_cons, e2], by rw [e3]; exact h2⟩

end Go.Proofs.YtjfedpblkejmkaaGreat

/-
  Contracts of the base: Mod, Compare at once, IsSmall; areLowest of the statements.
-/
namespace Go.Proofs.YtjfedpblkejmkaaGreat
open Go.RowKit

theorem mod_eq (n m : Int) (hm : 0 < m) : n % m = if n.tmod m < 0 then n.tmod m + m else n.tmod m := by
  have h1 := Int.tmod_add_mul_tdiv n m
  have h2 : (n.tmod m).natAbs < m.natAbs := by rw [Int.natAbs_tmod]; exact Nat.mod_lt _ (by omega)
  generalize n.tmod m = t at *
  generalize n.tdiv m = q at *
  rw [← h1, Int.add_mul_emod_self_left]
  by_cases h : t < 0
  · rw [if_pos h, ← Int.add_emod_right, Int.emod_eq_of_lt (by omega) (by omega)]
  · rw [if_neg h, Int.emod_eq_of_lt (by omega) (by omega)]

set_option maxHeartbeats 400000 in
theorem Mod_any (n m : Int) (w : World) (hm : 0 < m) (hm1 : m ≤ 1000) :
    Calls Tryz.prog 41 #[.int .i64 n, .int .i64 m] w fun e w' => e = .returned (.int .i64 (n % m)) ∧ w = w' := by
  have h2 : (n.tmod m).natAbs < m.natAbs := by rw [Int.natAbs_tmod]; exact Nat.mod_lt _ (by omega)
  have HE := Lib.hid (mod_eq n m hm)
  have hz : (m == 0) = false := by rw [beq_eq_false_iff_ne]; omega
  have hz2 : ¬ m = 0 := by omega
  have hng : ¬ (n = -9223372036854775808 ∧ m = -1) := by omega
  obtain ⟨r, hr⟩ : ∃ r, n % m = r := ⟨_, rfl⟩
  rw [hr] at HE ⊢
  clear hr
  obtain ⟨t, ht⟩ : ∃ t, n.tmod m = t := ⟨_, rfl⟩
  rw [ht] at HE h2
  by_cases hlt : t < 0
  · have hE : r = t + m := by rw [HE.out, if_pos hlt]
    have HR := Lib.hid hE
    clear hE
    go_enter Tryz.func41, Tryz.ntmps41
    go_wp2_with fail
    go_ret
    exact ⟨ret_int HR.out.symm, rfl⟩
  · have hE : r = t := by rw [HE.out, if_neg hlt]
    have HR := Lib.hid hE
    clear hE
    go_enter Tryz.func41, Tryz.ntmps41
    go_wp2_with fail
    go_ret
    exact ⟨ret_int HR.out.symm, rfl⟩

end Go.Proofs.YtjfedpblkejmkaaGreat

