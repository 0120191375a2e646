/-
  Texts of this claim, in their build order: OM3 OP5 OP14 OM4.
-/
import Derived.Test.YtbpcapcgbnbknaaGreatOne26
import Derived.Test.YtbpcapcgbnbknaaGreatOne29
import Derived.Test.YtbpcapcgbnbknaaGreatOne28
import Derived.Test.YtbpcapcgbnbknaaGreatOne30
import Derived.Test.YtbpcapcgbnbknaaGreatOne27
import Derived.Test.YtbpcapcgbnbknaaGreatOne31
import Derived.Test.YtbpcapcgbnbknaaGreatOne19
import Derived.ArgAppend
import Derived.Test.YtbpcapcgbnbknaaGreatOne0

namespace Go.Proofs.YtbpcapcgbnbknaaGreat
section
set_option maxHeartbeats 1600000
open Go.RowKit
attribute [local go_sem] Oper.semAt_some

theorem isNaN_any (x : Int) (w : World) : Calls Tryz.prog 148 #[.int .i64 x] w fun e w' => e = .returned (.bool false) ∧ w = w' := by
  have hx : (x != x) = false := by simp
  go_enter Tryz.func148, Tryz.ntmps148
  go_wp2_with fail
  go_ret
  exact ⟨ret_bool (by simp), rfl⟩
def cmp2 (a b : Int) : Int := if a < b then -1 else if b < a then 1 else 0
theorem cmpInt_any (a b : Int) (w : World) : Calls Tryz.prog 114 #[.int .i64 a, .int .i64 b] w fun e w' => e = .returned (.int .i64 (cmp2 a b)) ∧ w = w' := by
  unfold cmp2
  by_cases h1 : a < b
  · rw [if_pos h1]
    have h1' := decide_eq_true h1
    go_enter Tryz.func114, Tryz.ntmps114
    go_wp2_with (go_at_call 148; refine (isNaN_any _ _).mono ?_; rintro e w' ⟨rfl, rfl⟩)
    go_ret
    exact ⟨rfl, rfl⟩
  · rw [if_neg h1]
    have h1' := decide_eq_false h1
    by_cases h2 : b < a
    · rw [if_pos h2]
      have h2' := decide_eq_true h2
      go_enter Tryz.func114, Tryz.ntmps114
      go_wp2_with (go_at_call 148; refine (isNaN_any _ _).mono ?_; rintro e w' ⟨rfl, rfl⟩)
      go_ret
      exact ⟨rfl, rfl⟩
    · rw [if_neg h2]
      have h2' := decide_eq_false h2
      go_enter Tryz.func114, Tryz.ntmps114
      go_wp2_with (go_at_call 148; refine (isNaN_any _ _).mono ?_; rintro e w' ⟨rfl, rfl⟩)
      go_ret
      exact ⟨rfl, rfl⟩

/-- The order of states. -/
def ordI (a b : OSt) : Int := if cmp2 a.1 b.1 ≠ 0 then cmp2 a.1 b.1 else if a.2 = b.2 then 0 else if b.2 then -1 else 1
theorem ordI_lt (a b : OSt) : decide (ordI a b < 0) = ltS a b := by
  unfold ordI cmp2 ltS
  rw [Bool.eq_iff_iff]
  by_cases h1 : a.1 < b.1
  · simp [h1]
  · by_cases h2 : b.1 < a.1
    · simp [h1, h2]; intro h; omega
    · have : a.1 = b.1 := by omega
      simp [this]
      cases a.2 <;> cases b.2 <;> simp
theorem order_any (a b : OSt) (w : World) :
    Calls Tryz.prog 92 #[.agg #[.int .i64 a.1, .bool a.2], .agg #[.int .i64 b.1, .bool b.2]] w fun e w' => e = .returned (.int .i64 (ordI a b)) ∧ w' = (w.alloc (.cells #[.int .i64 a.1, .bool a.2] 53)).alloc (.cells #[.int .i64 b.1, .bool b.2] 53) := by
  obtain ⟨a1, a2⟩ := a
  obtain ⟨b1, b2⟩ := b
  unfold ordI
  dsimp only
  obtain ⟨c, hc⟩ : ∃ c, cmp2 a1 b1 = c := ⟨_, rfl⟩
  have HC := zH hc
  rw [hc]
  clear hc
  by_cases h0 : c = 0
  · subst h0
    cases a2 <;> cases b2
    all_goals
      go_enter Tryz.func92, Tryz.ntmps92
      go_wp2_with (go_at_call 114; refine (cmpInt_any _ _ _).mono ?_; rintro e w' ⟨rfl, rfl⟩; rw [HC.out])
      go_ret
      exact ⟨by simp, rfl⟩
  · have h0' : (c != 0) = true := by simpa using h0
    go_enter Tryz.func92, Tryz.ntmps92
    go_wp2_with (go_at_call 114; refine (cmpInt_any _ _ _).mono ?_; rintro e w' ⟨rfl, rfl⟩; rw [HC.out])
    go_ret
    exact ⟨by simp, rfl⟩

theorem cmpL_step {l m : List Int} {k : Nat} (h1 : k < l.length) (h2 : k < m.length) : cmpL (l.drop k) (m.drop k) = if cmp2 (gi l k) (gi m k) ≠ 0 then cmp2 (gi l k) (gi m k) else cmpL (l.drop (k + 1)) (m.drop (k + 1)) := by
  rw [gi_drop l k h1, gi_drop m k h2]
  unfold cmp2
  show (if gi l k < gi m k then _ else if gi m k < gi l k then _ else _) = _
  by_cases h : gi l k < gi m k
  · simp [h]
  · by_cases h' : gi m k < gi l k <;> simp [h, h']

set_option maxRecDepth 100000 in
theorem slCompare_any (l m : List Int) (a b : Option Addr) (ca cb : Nat) (w : World) (hl : l.length ≤ 100000) (_hm : m.length ≤ 100000) (ha : Reads w a l.length (ints l)) (hb : Reads w b m.length (ints m)) :
    Calls Tryz.prog 55 #[.slice a l.length ca, .slice b m.length cb] w fun e w' => e = .returned (.int .i64 (cmpL l m)) ∧ w = w' := by
  have HA := zH ha
  have HB := zH hb
  have HN : Hid (∀ k, k < l.length → k < m.length → cmpL (l.drop k) (m.drop k) = if cmp2 (gi l k) (gi m k) ≠ 0 then cmp2 (gi l k) (gi m k) else cmpL (l.drop (k + 1)) (m.drop (k + 1))) := zH (fun k => cmpL_step)
  have HE1 : Hid (∀ k, k = l.length → k = m.length → cmpL (l.drop k) (m.drop k) = 0) := zH (fun k h1 h2 => by rw [List.drop_of_length_le (by omega), List.drop_of_length_le (by omega)]; rfl)
  have HE2 : Hid (∀ k, k = l.length → k < m.length → cmpL (l.drop k) (m.drop k) = -1) := zH (fun k h1 h2 => by rw [List.drop_of_length_le (by omega), gi_drop m k h2]; rfl)
  have HE3 : Hid (∀ k, k < l.length → k = m.length → cmpL (l.drop k) (m.drop k) = 1) := zH (fun k h1 h2 => by rw [List.drop_of_length_le (l := m) (by omega), gi_drop l k h1]; rfl)
  clear ha hb
  have HC : Hid (cmpL l m = cmpL (l.drop 0) (m.drop 0)) := zH rfl
  obtain ⟨r, hr⟩ : ∃ r, cmpL l m = r := ⟨_, rfl⟩
  obtain ⟨n1, hn1⟩ : ∃ n, l.length = n := ⟨_, rfl⟩
  obtain ⟨n2, hn2⟩ : ∃ n, m.length = n := ⟨_, rfl⟩
  rw [hr] at HC ⊢
  rw [hn1] at HA HN HE1 HE2 HE3 hl ⊢
  rw [hn2] at HB HN HE1 HE2 HE3 ⊢
  clear hr hn1 hn2
  go_enter Tryz.func55, Tryz.ntmps55
  go_wp2_with fail
  go_loop [5, 6, 7, 8, 11] (fun _ _ _ _ i => ∃ k : Nat, k ≤ n1 ∧ k ≤ n2 ∧ i = .int .i64 k ∧ Hid (r = cmpL (l.drop k) (m.drop k))) (fun _ _ _ _ i => n1 - (intOf i).toNat)
  case atStart => exact ⟨0, Nat.zero_le _, Nat.zero_le _, rfl, HC⟩
  case round =>
    obtain ⟨k, hk1, hk2, rfl, hc⟩ := hrel
    by_cases hlt1 : k < n1
    · obtain ⟨b1, o1, rfl, hb1, hc1⟩ := HA.out.at hlt1
      have k1 : w.cell? ⟨b1, o1 + k, none⟩ = some (.int .i64 (gi l k)) := hc1 k hlt1
      clear hc1
      by_cases hlt2 : k < n2
      · obtain ⟨b2, o2, rfl, hb2, hc2⟩ := HB.out.at hlt2
        have k2 : w.cell? ⟨b2, o2 + k, none⟩ = some (.int .i64 (gi m k)) := hc2 k hlt2
        clear hc2
        have hge : decide ((n2 : Int) ≤ (k : Int)) = false := decide_eq_false (by omega)
        have HS := zH (HN.out k hlt1 hlt2)
        obtain ⟨c, hcc⟩ : ∃ c, cmp2 (gi l k) (gi m k) = c := ⟨_, rfl⟩
        have HCC := zH hcc
        rw [hcc] at HS
        clear hcc
        by_cases h0 : c = 0
        · have h0' : (c != 0) = false := by simpa using h0
          have H0 := zH h0
          clear h0
          go_wp2_with (go_at_call 114; refine (cmpInt_any _ _ _).mono ?_; rintro e w' ⟨rfl, rfl⟩; rw [HCC.out])
          go_round
          case rel => exact ⟨k + 1, by omega, by omega, by go_num, zH (hc.out.trans (HS.out.trans (by rw [H0.out]; rfl)))⟩
          case measure => simp [intOf]; omega
        · have h0' : (c != 0) = true := by simpa using h0
          have H0 := zH h0
          clear h0
          go_wp2_with (go_at_call 114; refine (cmpInt_any _ _ _).mono ?_; rintro e w' ⟨rfl, rfl⟩; rw [HCC.out])
          go_ret
          exact ⟨ret_int (by rw [hc.out, HS.out, if_pos H0.out]), rfl⟩
      · obtain rfl : n2 = k := by omega
        go_wp2_with fail
        go_ret
        exact ⟨ret_int (by rw [hc.out]; exact (HE3.out _ hlt1 rfl).symm), rfl⟩
    · obtain rfl : n1 = k := by omega
      by_cases hlt2 : n1 < n2
      · go_wp2_with fail
        go_ret
        exact ⟨ret_int (by rw [hc.out]; exact (HE2.out _ rfl hlt2).symm), rfl⟩
      · obtain rfl : n2 = n1 := by omega
        go_wp2_with fail
        go_ret
        exact ⟨ret_int (by rw [hc.out]; exact (HE1.out _ rfl rfl).symm), rfl⟩

theorem Clip_any (a : Option Addr) (n c : Nat) (w : World) (hn : n ≤ 100000) (hc : n ≤ c) (ha : a = none → n = 0) :
    Calls Tryz.prog 111 #[.slice a n c] w fun e w' => e = .returned (.slice a n n) ∧ w = w' := by
  cases a with
  | none =>
    obtain rfl := ha rfl
    go_enter Tryz.func111, Tryz.ntmps111
    go_wp2_with fail
    go_ret
    exact ⟨rfl, rfl⟩
  | some ad =>
    go_enter Tryz.func111, Tryz.ntmps111
    go_wp2_with fail
    go_ret
    exact ⟨rfl, rfl⟩
end
section
open Go.RowKit

def inS (l : List OSt) (s : OSt) : Bool := l.any (· == s)
theorem inS_iff {l : List OSt} {s : OSt} : inS l s = true ↔ s ∈ l := by
  unfold inS
  rw [List.any_eq_true]
  constructor
  · rintro ⟨x, hx, e⟩
    have : x = s := by simpa using e
    subst this; exact hx
  · exact fun h => ⟨s, h, by simp⟩
/-- All states of a plant, in order. -/
def allS (p : Plt) : List OSt := (List.range (capV p.pts + 1).toNat).flatMap fun (v : Nat) => [((v : Int), false), ((v : Int), true)]
theorem mem_allS {p : Plt} {s : OSt} : s ∈ allS p ↔ StOk p s := by
  obtain ⟨v, r⟩ := s
  unfold allS StOk
  rw [List.mem_flatMap]
  constructor
  · rintro ⟨k, hk, h⟩
    rw [List.mem_range] at hk
    simp only [List.mem_cons, List.not_mem_nil, or_false, Prod.mk.injEq] at h
    dsimp only
    omega
  · rintro ⟨h1, h2⟩
    dsimp only at h1 h2
    refine ⟨v.toNat, List.mem_range.2 (by omega), ?_⟩
    have e : ((v.toNat : Nat) : Int) = v := by omega
    cases r <;> simp [e]
end
section
open Go.RowKit

theorem rngL_mem {r : Int × Int} {n : Int} : n ∈ rngL r ↔ r.1 ≤ n ∧ n ≤ r.2 := by
  unfold rngL
  rw [List.mem_map]
  constructor
  · rintro ⟨i, hi, rfl⟩
    rw [List.mem_range] at hi
    omega
  · rintro ⟨h1, h2⟩
    exact ⟨(n - r.1).toNat, List.mem_range.2 (by omega), by omega⟩
theorem allS_len {p : Plt} (_h : 0 ≤ capV p.pts) : (allS p).length = 2 * (capV p.pts + 1).toNat := by
  unfold allS
  generalize (capV p.pts + 1).toNat = n
  induction n with
  | zero => rfl
  | succ n ih => rw [List.range_succ, List.flatMap_append, List.length_append, ih]; simp; omega
end
section
open Go.RowKit

theorem rtArr : RowTy Tryz.prog 161 163 3 40 (.agg #[.int .i64 0, .bool false, .slice none 0 0]) := by
  obtain ⟨i, h1, h2, h3, h4⟩ := info_parts (show (Tryz.prog.info? 163).map (fun i => (i.zero, i.size, i.bytes)) = some (some (.agg #[.int .i64 0, .bool false, .slice none 0 0]), 3, 40) by kernel_rfl)
  exact ⟨by kernel_rfl, ⟨i, h1, h2, h3, h4⟩, rfl, by omega, by omega⟩
theorem rtInts : RowTy Tryz.prog 28 3 1 8 (.int .i64 0) := by
  obtain ⟨i, h1, h2, h3, h4⟩ := info_parts (show (Tryz.prog.info? 3).map (fun i => (i.zero, i.size, i.bytes)) = some (some (.int .i64 0), 1, 8) by kernel_rfl)
  exact ⟨by kernel_rfl, ⟨i, h1, h2, h3, h4⟩, rfl, by omega, by omega⟩

def arrR (now : List (OSt × List Int)) (ds : Nat → Option Addr × Nat) (k j : Nat) : Value :=
  if j = 0 then .int .i64 (ag now k).1.1 else if j = 1 then .bool (ag now k).1.2 else .slice (ds k).1 (ag now k).2.length (ds k).2
theorem arrF_recs (now : List (OSt × List Int)) (ds : Nat → Option Addr × Nat) : arrF now ds = recs 3 (arrR now ds) := rfl
theorem ag_app1 {l m : List (OSt × List Int)} {k : Nat} (h : k < l.length) : ag (l ++ m) k = ag l k := by
  unfold ag; rw [List.getD_eq_getElem?_getD, List.getD_eq_getElem?_getD, List.getElem?_append_left h]
theorem ag_app2 (l : List (OSt × List Int)) (x : OSt × List Int) : ag (l ++ [x]) l.length = x := by
  unfold ag; rw [List.getD_eq_getElem?_getD, List.getElem?_append_right (Nat.le_refl _), Nat.sub_self]; rfl
theorem nodupLe {α : Type} {l : List α} : ∀ {u : List α}, l.Nodup → (∀ x ∈ l, x ∈ u) → l.length ≤ u.length := by
  induction l with
  | nil => intro u _ _; simp
  | cons a l ih =>
    intro u hn hs
    have hn' := List.nodup_cons.1 hn
    obtain ⟨p, q, e⟩ := List.append_of_mem (hs a (List.mem_cons_self ..))
    have := ih (u := p ++ q) hn'.2 (fun x hx => by
      have := hs x (List.mem_cons_of_mem _ hx)
      rw [e] at this
      rcases List.mem_append.1 this with h | h
      · exact List.mem_append_left _ h
      · rcases List.mem_cons.1 h with h | h
        · subst h; exact absurd hx hn'.1
        · exact List.mem_append_right _ h)
    rw [e]
    rw [List.length_append] at this ⊢
    simp only [List.length_cons]
    omega
/-- States without repeats are not many. -/
theorem few_sts {p : Plt} (hp : PltOk p) {l : List (OSt × List Int)} (hn : (sts l).Nodup) (hs : ∀ x ∈ l, StOk p x.1) : l.length ≤ 402 := by
  have h1 := nodupLe hn (u := allS p) (fun x hx => by
    obtain ⟨y, hy, rfl⟩ := List.mem_map.1 hx
    exact mem_allS.2 (hs y hy))
  have h2 := cap_le hp
  have h3 := cap_pos hp
  rw [allS_len (by omega)] at h1
  unfold sts at h1
  rw [List.length_map] at h1
  omega

/-- What emptied the plant, in a block of the iterator's own. -/
def EmOwn (W : World) (B1 : Nat) (v8 v10 : Value) : Option (List Int) → Prop
  | none => v10 = .slice none 0 0
  | some e => ∃ b c, v10 = .slice (some ⟨b, 0, none⟩) e.length c ∧ e.length ≤ c ∧ Reads W (some ⟨b, 0, none⟩) e.length (ints e) ∧ B1 ≤ b ∧ b < W.heap.size ∧ v8.ownBlock ≠ some b
/-- The state of a round. -/
structure StpM (p : Plt) (bm : Nat) (T : Tks) (v8 v10 : Value) (da : Nat → Option Addr × Nat) (wr : World) : Prop where
  own : wr.ownsRow (bm + 1) 163 3 v8 T.aft.length (rcells 3 (arrR T.aft da) T.aft.length)
  dm : ∀ k, k < T.aft.length → ∃ b, (da k).1 = some ⟨b, 0, none⟩ ∧ Reads wr (some ⟨b, 0, none⟩) (ag T.aft k).2.length (ints (ag T.aft k).2) ∧ bm + 1 ≤ b ∧ b < wr.heap.size ∧ v8.ownBlock ≠ some b ∧ (ag T.aft k).2.length ≤ (da k).2
  set : SetW wr bm T.aft.length (fun s => T.aft.any (fun x => x.1 == s))
  em : EmOwn wr (bm + 1) v8 v10 T.emp
  stk : ∀ x ∈ T.aft, StOk p x.1
  nd : (sts T.aft).Nodup
theorem EmOwn.to {W W' : World} {B1 : Nat} {v8 v10 : Value} {o : Option (List Int)} (h : EmOwn W B1 v8 v10 o) (hb : Below W.heap.size W W') : EmOwn W' B1 v8 v10 o := by
  cases o with
  | none => exact h
  | some e =>
    obtain ⟨b, c, h1, h2, h3, h4, h5, h6⟩ := h
    exact ⟨b, c, h1, h2, h3.to hb, h4, Nat.lt_of_lt_of_le h5 hb.size, h6⟩
theorem StpM.to {p : Plt} {bm : Nat} {T : Tks} {v8 v10 : Value} {da : Nat → Option Addr × Nat} {wr W' : World} (h : StpM p bm T v8 v10 da wr) (hb : Below wr.heap.size wr W') : StpM p bm T v8 v10 da W' :=
  ⟨owns_to h.own hb, fun k hk => by
    obtain ⟨b, h1, h2, h3, h4, h5, h6⟩ := h.dm k hk
    exact ⟨b, h1, h2.to hb, h3, Nat.lt_of_lt_of_le h4 hb.size, h5, h6⟩, h.set.to hb, h.em.to hb, h.stk, h.nd⟩
theorem StpM.start (p : Plt) (w : World) : StpM p w.heap.size ⟨[], none⟩ (.slice none 0 0) (.slice none 0 0) (fun _ => (none, 0)) (w.alloc (.map #[] 0)) :=
  ⟨⟨by simp [rcells], .inl ⟨rfl, rfl⟩⟩, fun k hk => by simp at hk, SetW.new w, rfl, fun x hx => by simp at hx, List.nodup_nil⟩
/-- New demands that empty the plant. -/
theorem StpM.empt {p : Plt} {bm : Nat} {T : Tks} {v8 v10 : Value} {da : Nat → Option Addr × Nat} {wr : World} (h : StpM p bm T v8 v10 da wr) {e : List Int} {b c : Nat} (hc : e.length ≤ c) (hr : Reads wr (some ⟨b, 0, none⟩) e.length (ints e)) (h1 : bm + 1 ≤ b) (h2 : b < wr.heap.size) (h3 : v8.ownBlock ≠ some b) :
    StpM p bm ⟨T.aft, some e⟩ v8 (.slice (some ⟨b, 0, none⟩) e.length c) da wr :=
  ⟨h.own, h.dm, h.set, ⟨b, c, rfl, hc, hr, h1, h2, h3⟩, h.stk, h.nd⟩
theorem rcells_cg {s : Nat} {f g : Nat → Nat → Value} {n : Nat} (h : ∀ k j, k < n → j < s → f k j = g k j) : rcells s f n = rcells s g n :=
  rcells_ext (rcells_len _ _ _) fun k j hk hj => by
    have hlt : k * s + j < n * s := by
      have : (k + 1) * s ≤ n * s := Nat.mul_le_mul_right _ hk
      rw [Nat.succ_mul] at this; omega
    rw [rcells_get hlt, recs_at hj, h k j hk hj]
def daS (da : Nat → Option Addr × Nat) (n b c : Nat) (k : Nat) : Option Addr × Nat := if k = n then (some ⟨b, 0, none⟩, c) else da k
theorem rcells_add {aft : List (OSt × List Int)} {da : Nat → Option Addr × Nat} {t : OSt} {dem : List Int} {b c : Nat} :
    rcells 3 (arrR aft da) aft.length ++ [.int .i64 t.1, .bool t.2, .slice (some ⟨b, 0, none⟩) dem.length c] = rcells 3 (arrR (aft ++ [(t, dem)]) (daS da aft.length b c)) (aft.length + 1) := by
  have hcg : rcells 3 (arrR aft da) aft.length = rcells 3 (arrR (aft ++ [(t, dem)]) (daS da aft.length b c)) aft.length := by
    refine rcells_cg fun k j hk _ => ?_
    have hk' : ¬ k = aft.length := by omega
    unfold arrR daS
    rw [ag_app1 hk]
    simp only [hk', if_false]
  rw [hcg]
  refine rcells_snoc 3 _ _ rfl (fun j hj => ?_)
  unfold arrR daS
  rw [ag_app2, if_pos rfl]
  match j, hj with
  | 0, _ => rfl
  | 1, _ => rfl
  | 2, _ => rfl
theorem EmOwn.moved {W W' : World} {B1 : Nat} {v8 v8' v10 : Value} {o : Option (List Int)} (h : EmOwn W B1 v8 v10 o) (hg : W.grownBy W' v8.ownBlock) (hw : v8'.ownBlock = v8.ownBlock ∨ v8'.ownBlock = some W.heap.size) : EmOwn W' B1 v8' v10 o := by
  cases o with
  | none => exact h
  | some e =>
    obtain ⟨b, c, h1, h2, h3, h4, h5, h6⟩ := h
    refine ⟨b, c, h1, h2, h3.grown hg (fun p e => by cases e; exact fun e => h6 e.symm), h4, Nat.lt_of_lt_of_le h5 hg.size, ?_⟩
    rcases hw with hw | hw
    · rw [hw]; exact h6
    · rw [hw]; intro e; injection e with e; omega
/-- One more state: put into the set (w1), and appended (w2). -/
theorem StpM.add {p : Plt} {bm : Nat} {T : Tks} {v8 v8' v10 : Value} {da : Nat → Option Addr × Nat} {wr w1 w2 : World} {t : OSt} {dem : List Int} {b c : Nat} (o : Obj) (h : StpM p bm T v8 v10 da wr)
    (hset : SetW w1 bm (T.aft.length + 1) (fun x => T.aft.any (fun y => y.1 == x) || x == t)) (hg1 : wr.grownBy w1 (some bm))
    (hown : w2.ownsRow (bm + 1) 163 3 v8' (T.aft.length + 1) (rcells 3 (arrR T.aft da) T.aft.length ++ [.int .i64 t.1, .bool t.2, .slice (some ⟨b, 0, none⟩) dem.length c])) (hg2 : (w1.alloc o).grownBy w2 v8.ownBlock) (hw : v8'.ownBlock = v8.ownBlock ∨ v8'.ownBlock = some (w1.alloc o).heap.size)
    (hc : dem.length ≤ c) (hr : Reads wr (some ⟨b, 0, none⟩) dem.length (ints dem)) (h1 : bm + 1 ≤ b) (h2 : b < wr.heap.size) (h3 : v8.ownBlock ≠ some b) (ht : StOk p t) (hnew : T.aft.any (fun y => y.1 == t) = false) :
    StpM p bm ⟨T.aft ++ [(t, dem)], T.emp⟩ v8' v10 (daS da T.aft.length b c) w2 := by
  have hlo := h.own.lt
  have hv8 : ∀ k, v8.ownBlock = some k → bm + 1 ≤ k ∧ k < wr.heap.size := hlo
  have hs1 := hg1.size
  have hne : ∀ k, v8'.ownBlock = some k → v8.ownBlock = some k ∨ wr.heap.size ≤ k := fun k hk => by
    rcases hw with hw | hw
    · left; rw [← hw]; exact hk
    · right; rw [hw] at hk; injection hk with hk; simp only [World.size_alloc] at hk; omega
  have hrd : ∀ {b' : Nat} {m : Nat} {f : Nat → Value}, Reads wr (some ⟨b', 0, none⟩) m f → b' ≠ bm → v8.ownBlock ≠ some b' → Reads w2 (some ⟨b', 0, none⟩) m f := fun hr hb1 hb2 =>
    ((hr.grown hg1 (fun p e => by cases e; intro e; injection e with e; exact hb1 e)).alloc o).grown hg2 (fun p e => by cases e; exact fun e => hb2 e.symm)
  have hsz : wr.heap.size ≤ w2.heap.size := by have := hg2.size; simp only [World.size_alloc] at this; omega
  have hbm : v8.ownBlock ≠ some bm := fun e => by have := (hv8 _ e).1; omega
  refine ⟨?_, fun k hk => ?_, ?_, ?_, fun x hx => ?_, ?_⟩
  · show w2.ownsRow (bm + 1) _ 3 v8' (T.aft ++ [(t, dem)]).length (rcells 3 (arrR (T.aft ++ [(t, dem)]) (daS da T.aft.length b c)) (T.aft ++ [(t, dem)]).length)
    rw [List.length_append, show [(t, dem)].length = 1 from rfl, ← rcells_add]
    exact hown
  · have hk' : k < T.aft.length + 1 := by simpa using hk
    by_cases hkn : k = T.aft.length
    · subst hkn
      refine ⟨b, by simp [daS], ?_, h1, by omega, fun e => ?_, ?_⟩
      · show Reads w2 _ (ag (T.aft ++ [(t, dem)]) T.aft.length).2.length (ints (ag (T.aft ++ [(t, dem)]) T.aft.length).2)
        rw [ag_app2]
        exact hrd hr (by omega) h3
      · rcases hne _ e with h | h
        · exact h3 h
        · omega
      · show (ag (T.aft ++ [(t, dem)]) T.aft.length).2.length ≤ _
        rw [ag_app2]
        simpa [daS] using hc
    · obtain ⟨b', k1, k2, k3, k4, k5, k6⟩ := h.dm k (by omega)
      have e1 : ag (T.aft ++ [(t, dem)]) k = ag T.aft k := ag_app1 (by omega)
      refine ⟨b', by simpa [daS, hkn] using k1, ?_, k3, by omega, fun e => ?_, ?_⟩
      · show Reads w2 _ (ag (T.aft ++ [(t, dem)]) k).2.length (ints (ag (T.aft ++ [(t, dem)]) k).2)
        rw [e1]
        exact hrd k2 (by omega) k5
      · rcases hne _ e with h | h
        · exact k5 h
        · omega
      · show (ag (T.aft ++ [(t, dem)]) k).2.length ≤ _
        rw [e1]
        simpa [daS, hkn] using k6
  · show SetW w2 bm (T.aft ++ [(t, dem)]).length _
    rw [List.length_append]
    refine (((hset.to (bAlloc (bSelf w1) o)).grown hg2 (fun e => hbm e.symm))).ext (fun s => ?_)
    rw [List.any_append]
    show _ = (_ || ((t == s) || false))
    rw [Bool.or_false]
    have : (s == t) = (t == s) := by rw [Bool.eq_iff_iff]; simp; exact ⟨fun e => e.symm, fun e => e.symm⟩
    rw [this]
  · have h5 : EmOwn (w1.alloc o) (bm + 1) v8 v10 T.emp := by
      have := h.em
      cases hT : T.emp with
      | none => rw [hT] at this; exact this
      | some e =>
        rw [hT] at this
        obtain ⟨b', c', k1, k2, k3, k4, k5, k6⟩ := this
        have hbb : b' ≠ bm := by omega
        have hls : b' < (w1.alloc o).heap.size := by rw [World.size_alloc]; omega
        exact ⟨b', c', k1, k2, (k3.grown hg1 (fun p e => by cases e; intro e; injection e with e; exact hbb e)).alloc o, k4, hls, k6⟩
    exact h5.moved hg2 hw
  · rcases List.mem_append.1 hx with hx | hx
    · exact h.stk x hx
    · simp only [List.mem_cons, List.not_mem_nil, or_false] at hx
      subst hx
      exact ht
  · show (sts (T.aft ++ [(t, dem)])).Nodup
    unfold sts
    rw [List.map_append, List.nodup_append]
    refine ⟨h.nd, by simp, fun a ha b' hb' e => ?_⟩
    simp only [List.map_cons, List.map_nil, List.mem_cons, List.not_mem_nil, or_false] at hb'
    have hat : a = t := e.trans hb'
    obtain ⟨y, hy, e⟩ := List.mem_map.1 ha
    have : T.aft.any (fun y => y.1 == t) = true := List.any_eq_true.2 ⟨y, hy, by simpa using e.trans hat⟩
    rw [hnew] at this
    cases this
/-- What is handed over. -/
theorem StpM.enc {p : Plt} {bm : Nat} {T : Tks} {v8 v10 : Value} {da : Nat → Option Addr × Nat} {wr : World} (h : StpM p bm T v8 v10 da wr) {M : Nat → Prop} (hM : ∀ k, M k → k < bm + 1) : TkEnc (T.aft, T.emp) #[v8, v10] M wr := by
  obtain ⟨a, c, rfl, hc, hr, hfr⟩ := Reads.of_row (f := arrF T.aft da) h.own (fun i hi => by rw [arrF_recs, rcells_get (by simpa using hi)])
  refine ⟨a, c, v10, da, rfl, hc, ⟨hr, fun k hk => ?_, fun q hq => ?_, fun k hk q hq => ?_, fun k hk => ?_⟩, ?_⟩
  · obtain ⟨b, k1, k2, -⟩ := h.dm k hk
    rw [k1]; exact k2
  · have := h.own.lt
    subst hq
    have h2 := hfr _ rfl
    refine ⟨fun hm => by have := hM _ hm; omega, ?_⟩
    by_cases h0 : T.aft.length = 0
    · rcases h.own.2 with ⟨e, _⟩ | ⟨g, cap', cur, e, hb, hg, hn, -⟩
      · cases e
      · cases e; exact (Array.getElem?_eq_some_iff.1 hg).1
    · obtain ⟨b, off, e, hb, -⟩ := hr.at (k := 0) (by omega)
      cases e; exact hb
  · obtain ⟨b, k1, k2, k3, k4, k5, k6⟩ := h.dm k hk
    rw [k1] at hq
    cases hq
    exact ⟨fun hm => by have := hM _ hm; dsimp only at this; omega, k4⟩
  · obtain ⟨b, k1, k2, k3, k4, k5, k6⟩ := h.dm k hk
    exact k6
  · have := h.em
    cases hT : T.emp with
    | none => rw [hT] at this; exact this
    | some e =>
      rw [hT] at this
      obtain ⟨b, c', k1, k2, k3, k4, k5, k6⟩ := this
      exact ⟨⟨b, 0, none⟩, c', k1, k2, k3, fun hm => by have := hM _ hm; dsimp only at this; omega, k5⟩
end
end Go.Proofs.YtbpcapcgbnbknaaGreat
