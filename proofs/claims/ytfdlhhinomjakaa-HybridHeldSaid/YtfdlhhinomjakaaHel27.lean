/-
  Texts of this claim, in their build order: OP11 OP12 BS1.
-/
import Derived.Test.YtfdlhhinomjakaaHel26
import Derived.Test.YtfdlhhinomjakaaHel22
import Derived.Test.YtfdlhhinomjakaaHel6
import Derived.Test.YtfdlhhinomjakaaHel0

namespace Go.Proofs.Ytfdlhhinomjakaa
section
open Go.RowKit

theorem cmpL_self : ∀ l : List Int, cmpL l l = 0
  | [] => rfl
  | a :: l => by unfold cmpL; rw [if_neg (Int.lt_irrefl a), if_neg (Int.lt_irrefl a)]; exact cmpL_self l
theorem cmpL_zero : ∀ {l m : List Int}, cmpL l m = 0 → l = m
  | [], [], _ => rfl
  | [], _ :: _, h => by unfold cmpL at h; omega
  | _ :: _, [], h => by unfold cmpL at h; omega
  | a :: l, b :: m, h => by
    unfold cmpL at h
    split at h
    · omega
    · split at h
      · omega
      · rw [cmpL_zero h, show a = b by omega]
theorem cmpL_swap : ∀ (l m : List Int), cmpL m l = -cmpL l m
  | [], [] => rfl
  | [], _ :: _ => rfl
  | _ :: _, [] => rfl
  | a :: l, b :: m => by
    unfold cmpL
    rcases Int.lt_trichotomy a b with h | h | h
    · rw [if_neg (show ¬ b < a by omega), if_pos h, if_pos h]; rfl
    · subst h
      rw [if_neg (Int.lt_irrefl a), if_neg (Int.lt_irrefl a), if_neg (Int.lt_irrefl a), if_neg (Int.lt_irrefl a)]
      exact cmpL_swap l m
    · rw [if_pos h, if_neg (show ¬ a < b by omega), if_pos h]
theorem cmpL_trans : ∀ {l m k : List Int}, cmpL l m < 0 → cmpL m k < 0 → cmpL l k < 0
  | [], [], _, h, _ => by unfold cmpL at h; omega
  | [], _ :: _, [], _, h => by unfold cmpL at h; omega
  | [], _ :: _, _ :: _, _, _ => by unfold cmpL; omega
  | _ :: _, [], _, h, _ => by unfold cmpL at h; omega
  | _ :: _, _ :: _, [], _, h => by unfold cmpL at h; omega
  | a :: l, b :: m, c :: k, h1, h2 => by
    unfold cmpL at h1 h2 ⊢
    rcases Int.lt_trichotomy a b with e1 | e1 | e1
    · rcases Int.lt_trichotomy b c with e2 | e2 | e2
      · rw [if_pos (by omega)]; decide
      · rw [if_pos (by omega)]; decide
      · rw [if_neg (by omega), if_pos e2] at h2; omega
    · subst e1
      rw [if_neg (Int.lt_irrefl a), if_neg (Int.lt_irrefl a)] at h1
      rcases Int.lt_trichotomy a c with e2 | e2 | e2
      · rw [if_pos e2]; decide
      · subst e2
        rw [if_neg (Int.lt_irrefl a), if_neg (Int.lt_irrefl a)] at h2 ⊢
        exact cmpL_trans h1 h2
      · rw [if_neg (by omega), if_pos e2] at h2; omega
    · rw [if_neg (by omega), if_pos e1] at h1; omega
theorem cmpL_le_lt {l m k : List Int} (h1 : cmpL l m ≤ 0) (h2 : cmpL m k < 0) : cmpL l k < 0 := by
  rcases Int.lt_or_eq_of_le h1 with h | h
  · exact cmpL_trans h h2
  · rw [cmpL_zero h]; exact h2
theorem cmpL_le {l m k : List Int} (h1 : cmpL l m ≤ 0) (h2 : cmpL m k ≤ 0) : cmpL l k ≤ 0 := by
  rcases Int.lt_or_eq_of_le h2 with h | h
  · exact Int.le_of_lt (cmpL_le_lt h1 h)
  · rw [← cmpL_zero h]; exact h1
theorem cmpL_cons (a b : Int) (l m : List Int) : cmpL (a :: l) (b :: m) = if a < b then -1 else if b < a then 1 else cmpL l m := rfl
theorem cmpL_app : ∀ {l m : List Int}, l.length = m.length → ∀ x y, cmpL (l ++ x) (m ++ y) = if cmpL l m = 0 then cmpL x y else cmpL l m
  | [], [], _, x, y => by simp [cmpL]
  | [], _ :: _, h, _, _ => by simp at h
  | _ :: _, [], h, _, _ => by simp at h
  | a :: l, b :: m, h, x, y => by
    have ih := cmpL_app (l := l) (m := m) (by simpa using h) x y
    rw [List.cons_append, List.cons_append, cmpL_cons, cmpL_cons]
    by_cases h1 : a < b
    · rw [if_pos h1, if_pos h1, if_neg (by decide)]
    · rw [if_neg h1, if_neg h1]
      by_cases h2 : b < a
      · rw [if_pos h2, if_pos h2, if_neg (by decide)]
      · rw [if_neg h2, if_neg h2]; exact ih
theorem cmpL_one (a b : Int) : cmpL [a] [b] = if a < b then -1 else if b < a then 1 else 0 := rfl
/-- A list of ways, in order. -/
def SrtW (l : List (OSt × List Int)) : Prop := l.Pairwise fun a b => cmpL a.2 b.2 < 0
theorem rngL_srt (r : Int × Int) : (rngL r).Pairwise (· < ·) := by
  unfold rngL
  rw [List.pairwise_map]
  exact List.Pairwise.imp (fun h => by omega) List.pairwise_lt_range
/-- The level is in order, and its ways are the first ones. -/
structure LvL (p : Plt) (s : OSt) (c : List (Int × Int)) (now : List (OSt × List Int)) : Prop where
  ok : LvOk p s c now
  srt : SrtW now
  fst : ∀ ds t, inC c ds → goQ p s ds = some t → ∃ a ∈ now, a.1 = t ∧ cmpL a.2 ds ≤ 0
/-- While the next level is found: behind all ways before w. -/
structure StpL (p : Plt) (s : OSt) (c : List (Int × Int)) (now : List (OSt × List Int)) (r : Int × Int) (k : Tks) (done : List (List Int)) : Prop where
  srt : SrtW k.aft
  sub : ∀ a ∈ k.aft, a.2 ∈ done
  emp : ∀ e, k.emp = some e → e ∈ done
  fst : ∀ w ∈ done, (∀ t, goQ p s w = some t → ∃ a ∈ k.aft, a.1 = t ∧ cmpL a.2 w ≤ 0) ∧ (goQ p s w = none → ∃ e, k.emp = some e ∧ cmpL e w ≤ 0)
theorem tkD_lex {p : Plt} {s : OSt} {c : List (Int × Int)} {now : List (OSt × List Int)} {r : Int × Int} {k : Tks} {done : List (List Int)} {a : OSt × List Int} {n : Int} (h : StpL p s c now r k done) (ha : goQ p s a.2 = some a.1)
    (hd : ∀ w ∈ done, cmpL w (a.2 ++ [n]) < 0) : StpL p s c now r (tkD p a k n) (done ++ [a.2 ++ [n]]) := by
  have hgo : goQ p s (a.2 ++ [n]) = nxtA p a.1 n := by rw [goQ_snoc, ha]; rfl
  obtain ⟨h1, h2, h3, h4⟩ := h
  unfold tkD
  cases e : nxtA p a.1 n with
  | none =>
    dsimp only
    cases hk : k.emp with
    | none =>
      refine ⟨h1, fun b hb => List.mem_append_left _ (h2 b hb), fun x hx => (by cases hx; simp), fun w hw => ?_⟩
      rcases List.mem_append.1 hw with hw | hw
      · obtain ⟨f1, f2⟩ := h4 w hw
        refine ⟨f1, fun hn => ?_⟩
        obtain ⟨y, hy, -⟩ := f2 hn
        rw [hk] at hy; cases hy
      · have : w = a.2 ++ [n] := by simpa using hw
        subst this
        exact ⟨fun t ht => (by rw [hgo, e] at ht; cases ht), fun _ => ⟨_, rfl, by rw [cmpL_self]; exact Int.le_refl _⟩⟩
    | some y =>
      refine ⟨h1, fun b hb => List.mem_append_left _ (h2 b hb), fun x hx => (by cases hx; exact List.mem_append_left _ (h3 _ hk)), fun w hw => ?_⟩
      rcases List.mem_append.1 hw with hw | hw
      · obtain ⟨f1, f2⟩ := h4 w hw
        refine ⟨f1, fun hn => ?_⟩
        obtain ⟨z, hz, hc⟩ := f2 hn
        rw [hk] at hz; cases hz
        exact ⟨_, rfl, hc⟩
      · have : w = a.2 ++ [n] := by simpa using hw
        subst this
        exact ⟨fun t ht => (by rw [hgo, e] at ht; cases ht), fun _ => ⟨_, rfl, Int.le_of_lt (hd y (h3 y hk))⟩⟩
  | some t =>
    dsimp only
    split
    · rename_i h5
      refine ⟨h1, fun b hb => List.mem_append_left _ (h2 b hb), fun x hx => List.mem_append_left _ (h3 _ hx), fun w hw => ?_⟩
      rcases List.mem_append.1 hw with hw | hw
      · exact h4 w hw
      · have : w = a.2 ++ [n] := by simpa using hw
        subst this
        refine ⟨fun u hu => ?_, fun hn => by rw [hgo, e] at hn; cases hn⟩
        rw [hgo, e] at hu
        cases hu
        obtain ⟨b, hb, eb⟩ := List.any_eq_true.1 h5
        exact ⟨b, hb, by simpa using eb, Int.le_of_lt (hd b.2 (h2 b hb))⟩
    · refine ⟨?_, fun b hb => ?_, fun x hx => List.mem_append_left _ (h3 _ hx), fun w hw => ?_⟩
      · unfold SrtW
        rw [List.pairwise_append]
        refine ⟨h1, by simp, fun b hb x hx => ?_⟩
        have : x = (t, a.2 ++ [n]) := by simpa using hx
        subst this
        exact hd b.2 (h2 b hb)
      · rcases List.mem_append.1 hb with hb | hb
        · exact List.mem_append_left _ (h2 b hb)
        · have : b = (t, a.2 ++ [n]) := by simpa using hb
          subst this
          simp
      · rcases List.mem_append.1 hw with hw | hw
        · obtain ⟨f1, f2⟩ := h4 w hw
          exact ⟨fun u hu => by obtain ⟨b, hb, x⟩ := f1 u hu; exact ⟨b, List.mem_append_left _ hb, x⟩, f2⟩
        · have : w = a.2 ++ [n] := by simpa using hw
          subst this
          refine ⟨fun u hu => ?_, fun hn => by rw [hgo, e] at hn; cases hn⟩
          rw [hgo, e] at hu
          cases hu
          exact ⟨(t, a.2 ++ [n]), by simp, rfl, by rw [cmpL_self]; exact Int.le_refl _⟩
end
section
open Go.RowKit

abbrev wyQ (x : (OSt × List Int) × Int) : List Int := x.1.2 ++ [x.2]
def prsQ (now : List (OSt × List Int)) (r : Int × Int) : List ((OSt × List Int) × Int) := now.flatMap fun a => (rngL r).map fun n => (a, n)
theorem tkL_prs (p : Plt) (r : Int × Int) : ∀ (now : List (OSt × List Int)) (k : Tks), now.foldl (tkR p r) k = (prsQ now r).foldl (fun k x => tkD p x.1 k x.2) k
  | [], _ => rfl
  | a :: now, k => by
    unfold prsQ
    rw [List.flatMap_cons, List.foldl_append, List.foldl_cons, List.foldl_map]
    exact tkL_prs p r now _
theorem fold_lex {p : Plt} {s : OSt} {c : List (Int × Int)} {now : List (OSt × List Int)} {r : Int × Int} : ∀ (l : List ((OSt × List Int) × Int)) (k : Tks) (done : List (List Int)), StpL p s c now r k done → (∀ x ∈ l, goQ p s x.1.2 = some x.1.1) → l.Pairwise (fun x y => cmpL (wyQ x) (wyQ y) < 0) → (∀ w ∈ done, ∀ x ∈ l, cmpL w (wyQ x) < 0) →
    StpL p s c now r (l.foldl (fun k x => tkD p x.1 k x.2) k) (done ++ l.map wyQ)
  | [], k, done, h, _, _, _ => by simpa using h
  | x :: l, k, done, h, h1, h2, h3 => by
    have hp := List.pairwise_cons.1 h2
    have := fold_lex l _ _ (tkD_lex (n := x.2) h (h1 x (List.mem_cons_self ..)) (fun w hw => h3 w hw x (List.mem_cons_self ..))) (fun y hy => h1 y (List.mem_cons_of_mem _ hy)) hp.2 (fun w hw y hy => by
      rcases List.mem_append.1 hw with hw | hw
      · exact h3 w hw y (List.mem_cons_of_mem _ hy)
      · have e : w = wyQ x := by simpa using hw
        rw [e]; exact hp.1 y hy)
    rw [List.foldl_cons, List.map_cons]
    rw [List.append_assoc] at this
    exact this
theorem LvL.stp {p : Plt} {s : OSt} {c : List (Int × Int)} {now : List (OSt × List Int)} (h : LvL p s c now) (r : Int × Int) : StpL p s c now r (tkL p r now) ((prsQ now r).map wyQ) := by
  unfold tkL
  rw [tkL_prs]
  have := fold_lex (p := p) (s := s) (c := c) (now := now) (r := r) (prsQ now r) ⟨[], none⟩ [] ⟨List.Pairwise.nil, fun _ h => (by cases h), fun _ h => (by cases h), fun _ h => (by cases h)⟩ (fun x hx => ?_) ?_ (fun _ h => (by cases h))
  · rw [List.nil_append] at this; exact this
  · obtain ⟨a, ha, hx⟩ := List.mem_flatMap.1 hx
    obtain ⟨n, -, rfl⟩ := List.mem_map.1 hx
    exact (h.ok.way a ha).2
  · unfold prsQ
    rw [List.pairwise_flatMap]
    refine ⟨fun a ha => ?_, ?_⟩
    · rw [List.pairwise_map]
      refine List.Pairwise.imp ?_ (rngL_srt r)
      intro x y hxy
      show cmpL (a.2 ++ [x]) (a.2 ++ [y]) < 0
      rw [cmpL_app rfl, cmpL_self, if_pos rfl, cmpL_one, if_pos hxy]; decide
    · refine List.Pairwise.imp_of_mem ?_ h.srt
      intro a b ha hb hab x hx y hy
      obtain ⟨m, -, rfl⟩ := List.mem_map.1 hx
      obtain ⟨n, -, rfl⟩ := List.mem_map.1 hy
      show cmpL (a.2 ++ [m]) (b.2 ++ [n]) < 0
      rw [cmpL_app (by rw [(h.ok.way a ha).1.1, (h.ok.way b hb).1.1]), if_neg (by omega)]
      exact hab
theorem LvL.cand {p : Plt} {s : OSt} {c : List (Int × Int)} {now : List (OSt × List Int)} (h : LvL p s c now) {r : Int × Int} {ds : List Int} (hd : inC (c ++ [r]) ds) : ∃ w ∈ (prsQ now r).map wyQ, goQ p s w = goQ p s ds ∧ cmpL w ds ≤ 0 := by
  obtain ⟨es, n, rfl, he, hn⟩ := inC_snoc.1 hd
  obtain ⟨t, ht, -⟩ := h.ok.all es he
  obtain ⟨a, ha, e, hc⟩ := h.fst es t he ht
  refine ⟨a.2 ++ [n], List.mem_map.2 ⟨(a, n), List.mem_flatMap.2 ⟨a, ha, List.mem_map.2 ⟨n, hn, rfl⟩⟩, rfl⟩, ?_, ?_⟩
  · rw [goQ_snoc, goQ_snoc, ht, (h.ok.way a ha).2, e]
  · rw [cmpL_app (by rw [(h.ok.way a ha).1.1, he.1]), cmpL_self]
    split <;> omega
theorem LvL.start (p : Plt) (s : OSt) : LvL p s [] [(s, [])] :=
  ⟨LvOk.start p s, by unfold SrtW; simp, fun ds t hd ht => by
    rw [inC_nil.1 hd] at ht ⊢
    cases ht
    exact ⟨(s, []), by simp, rfl, by rw [cmpL_self]; exact Int.le_refl _⟩⟩
theorem LvL.next {p : Plt} {s : OSt} {c : List (Int × Int)} {r : Int × Int} {now : List (OSt × List Int)} (h : LvL p s c now) (he : (tkL p r now).emp = none) : LvL p s (c ++ [r]) (tkL p r now).aft := by
  have hs := h.stp r
  refine ⟨h.ok.next he, hs.srt, fun ds t hd ht => ?_⟩
  obtain ⟨w, hw, hg, hc⟩ := h.cand hd
  obtain ⟨a, ha, e, hc2⟩ := (hs.fst w hw).1 t (by rw [hg]; exact ht)
  exact ⟨a, ha, e, cmpL_le hc2 hc⟩
/-- The first bad state of a level has the first bad way. -/
theorem find_first {p : Plt} {lim : Int} {now : List (OSt × List Int)} (hs : SrtW now) {a b : OSt × List Int} (hf : now.find? (fun a => blwQ p lim a.1) = some a) (hb : b ∈ now) (hbb : blwQ p lim b.1 = true) : cmpL a.2 b.2 ≤ 0 := by
  induction now with
  | nil => cases hb
  | cons x now ih =>
    have hp := List.pairwise_cons.1 hs
    by_cases hx : blwQ p lim x.1 = true
    · rw [List.find?_cons_of_pos (p := fun a : OSt × List Int => blwQ p lim a.1) hx] at hf
      cases hf
      rcases List.mem_cons.1 hb with rfl | hb
      · rw [cmpL_self]; exact Int.le_refl _
      · exact Int.le_of_lt (hp.1 b hb)
    · rw [List.find?_cons_of_neg (p := fun a : OSt × List Int => blwQ p lim a.1) hx] at hf
      rcases List.mem_cons.1 hb with rfl | hb
      · exact absurd hbb hx
      · exact ih hp.2 hf hb
theorem LvL.least {p : Plt} {s : OSt} {c : List (Int × Int)} {now : List (OSt × List Int)} {lim : Int} (h : LvL p s c now) {a : OSt × List Int} (hf : now.find? (fun a => blwQ p lim a.1) = some a) {ds : List Int} (hd : inC c ds) (hb : ¬ GdQ p s lim ds) : cmpL a.2 ds ≤ 0 := by
  obtain ⟨t, ht, -⟩ := h.ok.all ds hd
  obtain ⟨b, hbm, e, hc⟩ := h.fst ds t hd ht
  have hbb : blwQ p lim b.1 = true := by
    rw [e]
    cases hx : blwQ p lim t
    · exact absurd ⟨t, ht, hx⟩ hb
    · rfl
  exact cmpL_le (find_first h.srt hf hbm hbb) hc
end
section
open Go.RowKit
attribute [local go_sem] Oper.semAt_some

theorem rngH_len (r : Int × Int) : (rngL r).length = (r.2 - r.1 + 1).toNat := by unfold rngL; simp
theorem rngH_get {r : Int × Int} {j : Nat} (h : j < (rngL r).length) : (rngL r)[j] = r.1 + (j : Int) := by
  have h2 : (rngL r)[j]? = some (r.1 + (j : Int)) := by
    rw [rngH_len] at h
    unfold rngL
    rw [List.getElem?_map, List.getElem?_range h]
    rfl
  rw [List.getElem?_eq_getElem h] at h2
  exact Option.some.inj h2
theorem rngH_split {r : Int × Int} {j : Nat} (h : j < (r.2 - r.1 + 1).toNat) : rngL r = (rngL r).take j ++ (r.1 + (j : Int)) :: (rngL r).drop (j + 1) := by
  have h' : j < (rngL r).length := by rw [rngH_len]; exact h
  have h1 := (List.take_append_drop j (rngL r)).symm
  rw [List.drop_eq_getElem_cons h', rngH_get h'] at h1
  exact h1
theorem rngH_take {r : Int × Int} {j : Nat} (h : j < (r.2 - r.1 + 1).toNat) : (rngL r).take (j + 1) = (rngL r).take j ++ [r.1 + (j : Int)] := by
  have h' : j < (rngL r).length := by rw [rngH_len]; exact h
  rw [List.take_add_one, List.getElem?_eq_getElem h', rngH_get h']
  rfl

set_option maxHeartbeats 1600000 in
set_option maxRecDepth 100000 in
theorem forces_in (n : Nat) (x : HT) (w : World) (hx : x.ok) :
    SeqB n Try.prog 41 #[.agg x.cells] #[] (fun z : Int => #[.int .i64 z]) (rngL (x.lo, x.hi)) (fun _ => False) w := by
  intro l J Jx M W hW hM hJ hY h0
  obtain ⟨lo1, lo2, hi1, hi2⟩ : -1000 ≤ x.lo ∧ x.lo ≤ 1000 ∧ -1000 ≤ x.hi ∧ x.hi ≤ 1000 := ⟨hx.lo1, hx.lo2, hx.hi1, hx.hi2⟩
  have HSP := zH (fun (j : Nat) (h : j < (x.hi - x.lo + 1).toNat) => rngH_split (r := (x.lo, x.hi)) h)
  have HTK := zH (fun (j : Nat) (h : j < (x.hi - x.lo + 1).toNat) => rngH_take (r := (x.lo, x.hi)) h)
  have HLN := zH (rngH_len (x.lo, x.hi))
  obtain ⟨L, hL⟩ : ∃ L, rngL (x.lo, x.hi) = L := ⟨_, rfl⟩
  rw [hL] at HSP HTK HLN hY ⊢
  replace hM := zH hM
  replace hJ := zH hJ
  replace hY := zH hY
  replace h0 := zH h0
  clear hL hW
  refine callsIn_of_wp Try.func41 rfl trivial ?_ rfl
  simp only [Try.ntmps41, List.size_toArray, List.length_cons, List.length_nil, Nat.reduceAdd, Nat.reduceSub, Array.replicate_succ, Array.replicate_zero, List.push_toArray, List.append_toArray, List.nil_append, List.cons_append]
  gi_wp2_with fail
  obtain ⟨W0, hW0⟩ : ∃ u, W.alloc (.cells x.cells 68) = u := ⟨_, rfl⟩
  rw [hW0]
  have hb0 : Below W.heap.size W W0 := by subst hW0; exact bAlloc (bSelf _) _
  have KX : Hid (Blk W0 W.heap.size x.cells) := by subst hW0; exact zH (Blk.new _ _ _)
  have h1 := hJ.out _ _ _ _ h0.out (Agree.of_below (M := M) hb0 (Nat.le_refl _))
  have H1 := zH h1
  have HS0 : Hid (W.heap.size ≤ W0.heap.size) := zH hb0.size
  clear hb0 hW0 h1 h0
  obtain ⟨cnt, hcnt⟩ : ∃ t : Nat, (x.hi - x.lo + 1).toNat = t := ⟨_, rfl⟩
  have HCN : Hid ((cnt : Int) = x.hi - x.lo + 1 ∨ (cnt = 0 ∧ x.hi < x.lo)) := zH (by omega)
  rw [hcnt] at HSP HTK HLN
  clear hcnt
  obtain ⟨-, kx, -⟩ := KX.out
  gi_wp2_with fail
  clear kx
  gi_loopw [4] (fun s4 wr => ∃ j : Nat, j ≤ cnt ∧ s4 = .int .i64 (x.lo + (j : Int)) ∧ ∃ M1 : Nat → Prop, Hid (Blk wr W.heap.size x.cells) ∧ Hid (J (L.take j) M1 wr) ∧ Hid (∀ k, M1 k → k < wr.heap.size ∧ k ≠ W.heap.size) ∧ Hid (W.heap.size ≤ wr.heap.size)) (fun s4 _ => cnt + 1 - (intOf s4 - x.lo).toNat)
  case atStart => exact ⟨0, Nat.zero_le _, by first | go_num | simp, M, KX, H1, zH (fun k hk => ⟨by have := (hM.out k hk).1; have := HS0.out; omega, by have := (hM.out k hk).1; omega⟩), HS0⟩
  case round =>
    clear KX H1 HS0
    obtain ⟨j, hj, rfl, M1, KX, HJ1, HM1, HSZ⟩ := hrel
    obtain ⟨wo, hwo⟩ : ∃ wo, wo = wr := ⟨_, rfl⟩
    subst hwo
    have HKX : Hid (W.heap.size < wo.heap.size) := zH KX.out.1
    obtain ⟨-, kx, -⟩ := KX.out
    by_cases hlt : j < cnt
    · have hle : x.lo + (j : Int) ≤ x.hi := by have := HCN.out; omega
      have hsp := HSP.out j hlt
      obtain ⟨fn, tmps, assign, body, hy, hRd⟩ := hY.out (L.take j) (x.lo + (j : Int)) _ M1 wo hsp HJ1.out
      have HSPJ := zH hsp
      have hRd := zH hRd
      have htk := zH (HTK.out j hlt)
      clear hsp
      gi_wp2_with fail
      refine ⟨fun h => by simp [Fence.wide] at h, ?_⟩
      refine hRd.out.mono ?_
      rintro e W2 (⟨rfl, M2, hJ2, hU⟩ | ⟨rfl, hJx⟩)
      · replace KX := zH (KX.out.upd hU (fun h => (HM1.out _ h).2 rfl))
        have hU := zH hU
        have hJ2 := zH hJ2
        clear kx hy hRd
        gi_wp2_with fail
        go_roundw
        case rel =>
          refine ⟨j + 1, hlt, by rw [show x.lo + (j : Int) + 1 = x.lo + ((j + 1 : Nat) : Int) by omega], M2, KX, zH (by rw [htk.out]; exact hJ2.out), zH (fun k hk => ?_), zH (Nat.le_trans HSZ.out hU.out.size)⟩
          refine ⟨hU.out.fit k hk, ?_⟩
          rcases hU.out.grow k hk with h | h
          · exact (HM1.out k h).2
          · have h2 := KX.out.1
            have h3 := HSZ.out
            intro e
            subst e
            exact absurd h (by have := HKX.out; omega)
        case measure => simp [intOf]; omega
      · gi_wp2_with fail
        refine bodyPost_ret (results_none rfl _ _ _) rfl ?_
        exact ⟨⟨_, rfl⟩, .inr ⟨_, _, _, HSPJ.out, hJx⟩⟩
    · obtain rfl : cnt = j := by omega
      have hle : ¬ x.lo + (cnt : Int) ≤ x.hi := by have := HCN.out; omega
      gi_wp2_with fail
      go_end0
      refine ⟨⟨_, rfl⟩, .inl ⟨M1, ?_⟩⟩
      have h1 := HJ1.out
      rwa [List.take_of_length_le (by rw [HLN.out]; exact Nat.le_refl _)] at h1
end
end Go.Proofs.Ytfdlhhinomjakaa
