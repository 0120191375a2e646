/-
  Texts of this claim, in their build order: OR19 OR20 OR21 OR22 OW8 OR23 OR10 OL9.
-/
import Derived.Test.YtjfedpblkejmkaaGreatSfy47
import Derived.Test.YtjfedpblkejmkaaGreatSfy46
import Derived.Test.YtjfedpblkejmkaaGreatSfy25
import Derived.Test.YtjfedpblkejmkaaGreatSfy26
import Derived.Test.YtjfedpblkejmkaaGreatSfy24
import Derived.Test.YtjfedpblkejmkaaGreatSfy33
import Derived.Test.YtjfedpblkejmkaaGreatSfy43
import Derived.Test.YtjfedpblkejmkaaGreatSfy28

/-
  The reference: Less, has, put.
-/
namespace Go.Proofs.YtjfedpblkejmkaaGreat
open Go.RowKit
attribute [local go_sem] Oper.semAt_some

set_option maxHeartbeats 800000 in
set_option maxRecDepth 100000 in
theorem rLess_any (a b : OSt) (w : World) :
    Calls Tryz.prog 130 #[.agg #[.int .i64 a.1, .bool a.2], .agg #[.int .i64 b.1, .bool b.2]] w fun e w' => e = .returned (.bool (ltS a b)) ∧ Below w.heap.size w w' := by
  obtain ⟨a1, a2⟩ := a
  obtain ⟨b1, b2⟩ := b
  unfold ltS
  dsimp only
  by_cases h1 : a1 < b1
  · rw [decide_eq_true h1, Bool.true_or]
    go_enter Tryz.func130, Tryz.ntmps130
    go_wp2_with fail
    go_ret
    exact ⟨rfl, bAlloc (bAlloc (bSelf w) _) _⟩
  · rw [decide_eq_false h1, Bool.false_or]
    by_cases h2 : a1 = b1
    · subst h2
      cases a2 <;> cases b2
      all_goals
        go_enter Tryz.func130, Tryz.ntmps130
        go_wp2_with fail
        go_ret
        exact ⟨ret_bool (by simp), bAlloc (bAlloc (bSelf w) _) _⟩
    · have h3 : (a1 == b1) = false := by simpa using h2
      rw [h3, Bool.false_and, Bool.false_and]
      have h4 : b1 < a1 := by omega
      go_enter Tryz.func130, Tryz.ntmps130
      go_wp2_with fail
      go_ret
      exact ⟨rfl, bAlloc (bAlloc (bSelf w) _) _⟩

set_option maxHeartbeats 1600000 in
set_option maxRecDepth 100000 in
theorem rHas_any (l : List OSt) (s : OSt) (a : Option Addr) (cap : Nat) (w : World) (hlen : l.length ≤ 100000) (hr : Reads w a (l.length * 2) (osts l)) :
    Calls Tryz.prog 167 #[.slice a l.length cap, .agg #[.int .i64 s.1, .bool s.2]] w fun e w' => e = .returned (.bool (inS l s)) ∧ Below w.heap.size w w' := by
  have HA := Lib.hid hr
  have HY := Lib.hid (fun k (hk : k < l.length) => inS_at hk)
  have HNO := Lib.hid (fun h => inS_no (l := l) (s := s) h)
  obtain ⟨rb, hrb⟩ : ∃ b, inS l s = b := ⟨_, rfl⟩
  have HRB := Lib.hid hrb
  rw [hrb] at HNO ⊢
  obtain ⟨n, hn⟩ : ∃ n, l.length = n := ⟨_, rfl⟩
  rw [hn] at HA HY HNO hlen ⊢
  obtain ⟨s1, s2⟩ := s
  dsimp only
  clear hr hn hrb
  go_enter Tryz.func167, Tryz.ntmps167
  go_wp2_with fail
  obtain ⟨W, hW⟩ : ∃ W, w.alloc (.cells #[.int .i64 s1, .bool s2] 46) = W := ⟨_, rfl⟩
  rw [hW]
  have K3 : Hid (Blk W w.heap.size #[.int .i64 s1, .bool s2]) := by subst hW; exact Lib.hid (Blk.new _ _ _)
  have HB : Hid (Below w.heap.size w W) := by subst hW; exact Lib.hid (bAlloc (bSelf w) _)
  replace HA := Lib.hid (HA.out.to HB.out)
  clear hW
  go_loopw [5] (fun i wr => ∃ k : Nat, k ≤ n ∧ i = .int .i64 k ∧ Hid (∀ j, j < k → sg l j ≠ (s1, s2)) ∧ Hid (Below W.heap.size W wr)) (fun i _ => n - (intOf i).toNat)
  case atStart => exact ⟨0, Nat.zero_le _, rfl, Lib.hid (by intro j h; omega), Lib.hid (bSelf W)⟩
  case round =>
    obtain ⟨k, hk, rfl, hp, hB⟩ := hrel
    by_cases hlt : k < n
    · obtain ⟨ba, oa, rfl, hba, hca⟩ := (HA.out.to hB.out).at (k := k * 2) (by omega)
      obtain ⟨⟨n1, d1⟩, hz⟩ : ∃ q, sg l k = q := ⟨_, rfl⟩
      have h1 : Hid (wr.cell? ⟨ba, oa + k * 2, none⟩ = some (.int .i64 n1)) := Lib.hid (by rw [hca _ (by omega), osts0, hz])
      have h2 : Hid (wr.cell? ⟨ba, oa + k * 2 + 1, none⟩ = some (.bool d1)) := Lib.hid (by rw [Nat.add_assoc, hca _ (by omega), osts1, hz])
      have HZ := Lib.hid hz
      have hyk := HY.out k hlt
      rw [hz] at hyk
      have HYK := Lib.hid hyk
      clear hca hz hyk HY
      by_cases he : (n1, d1) = (s1, s2)
      · cases he
        obtain rfl : rb = true := by rw [← HRB.out]; exact HYK.out
        go_wp2_with fail
        refine wp_region_quiet_all (fun w' => Below (World.heap wr).size (wr) w') (by kernel_rfl) (by kernel_rfl) (Below.refl _ _).drew ?_
        refine WQ.out ?_
        repeat (first | (refine WQ_no (by rfl) ?_; (simp only [Act.put, List.setIfInBounds_toArray, List.set_cons_zero, List.set_cons_succ])) | (refine WQ_yes (by rfl) ?_; apply Exists.intro; refine ⟨fun w1 hb1 => ?_, ?_⟩; (focus (((have k1 := (hb1.cell (p := ⟨ba, oa + k * 2, none⟩) hba).trans h1.out; have k2 := (hb1.cell (p := ⟨ba, oa + k * 2 + 1, none⟩) hba).trans h2.out; obtain ⟨-, k3, -⟩ := (K3.out.to hB.out).to hb1); have hb1 := Lib.hid hb1; go_simp); (try (go_bits; try go_simp)); (try (rw [if_pos (by omega)]; try go_simp)); (first | done | (fail) | (with_reducible rfl) | exact rfl))); (simp only [Act.put, List.setIfInBounds_toArray, List.set_cons_zero, List.set_cons_succ])))
        refine WQ_nil ?_
        intro w1 hb1
        go_wp2_with fail
        go_ret
        exact ⟨rfl, bThen HB.out (bThen hB.out hb1)⟩
      · have HE := Lib.hid he
        have hcs : (¬ n1 = s1) ∨ (n1 = s1 ∧ ¬ d1 = s2) := by
          by_cases h : n1 = s1
          · exact .inr ⟨h, fun h2 => he (by rw [h, h2])⟩
          · exact .inl h
        clear he
        rcases hcs with hn | ⟨rfl, hn⟩
        all_goals
          go_wp2_with fail
          refine wp_region_quiet_all (fun w' => Below (World.heap wr).size (wr) w') (by kernel_rfl) (by kernel_rfl) (Below.refl _ _).drew ?_
          refine WQ.out ?_
          repeat (first | (refine WQ_no (by rfl) ?_; (simp only [Act.put, List.setIfInBounds_toArray, List.set_cons_zero, List.set_cons_succ])) | (refine WQ_yes (by rfl) ?_; apply Exists.intro; refine ⟨fun w1 hb1 => ?_, ?_⟩; (focus (((have k1 := (hb1.cell (p := ⟨ba, oa + k * 2, none⟩) hba).trans h1.out; have k2 := (hb1.cell (p := ⟨ba, oa + k * 2 + 1, none⟩) hba).trans h2.out; obtain ⟨-, k3, -⟩ := (K3.out.to hB.out).to hb1); have hb1 := Lib.hid hb1; go_simp); (try (go_bits; try go_simp)); (try (rw [if_pos (by omega)]; try go_simp)); (first | done | (fail) | (with_reducible rfl) | exact rfl))); (simp only [Act.put, List.setIfInBounds_toArray, List.set_cons_zero, List.set_cons_succ])))
          refine WQ_nil ?_
          intro w1 hb1
          go_wp2_with fail
          go_roundw
          case rel =>
            refine ⟨k + 1, by omega, by go_num, Lib.hid (fun j hj => ?_), Lib.hid (bThen hB.out hb1)⟩
            by_cases h : j = k
            · subst h; rw [HZ.out]; exact HE.out
            · exact hp.out j (by omega)
          case measure => simp [intOf]; omega
    · obtain rfl : n = k := by omega
      obtain rfl : rb = false := HNO.out hp.out
      go_wp2_with fail
      go_ret
      exact ⟨rfl, bThen HB.out hB.out⟩

/-- What stands at the head of a round of put. -/
structure PutI (l : List OSt) (s : OSt) (k : Nat) (dn : Bool) (out : List OSt) : Prop where
  eq : putS l s = out ++ (if dn = true then l.drop k else putS (l.drop k) s)
  no : dn = true → ∀ j, k ≤ j → j < l.length → sg l j ≠ s
  at' : dn = false → out = l.take k
  le : out.length ≤ k + 1
theorem drop_sg {l : List OSt} {k : Nat} (h : k < l.length) : l.drop k = sg l k :: l.drop (k + 1) := by
  rw [List.drop_eq_getElem_cons h]
  unfold sg
  rw [List.getD_eq_getElem?_getD, List.getElem?_eq_getElem h]
  rfl
theorem PutI.start (l : List OSt) (s : OSt) : PutI l s 0 false [] := ⟨rfl, fun h => (by cases h), fun _ => rfl, Nat.zero_le _⟩
theorem putS_cons (x : OSt) (l : List OSt) (s : OSt) : putS (x :: l) s = if x = s then x :: l else if ltS s x then s :: x :: l else x :: putS l s := rfl
theorem srt_lt {l : List OSt} (h : SrtS l) {i j : Nat} (hij : i < j) (hj : j < l.length) : ltS (sg l i) (sg l j) = true := by
  have := (List.pairwise_iff_getElem.1 h) i j (by omega) hj hij
  unfold sg
  rw [List.getD_eq_getElem?_getD, List.getD_eq_getElem?_getD, List.getElem?_eq_getElem (by omega : i < l.length), List.getElem?_eq_getElem hj]
  exact this
/-- The state stands there. -/
theorem PutI.found {l : List OSt} {s : OSt} {k : Nat} {dn : Bool} {out : List OSt} (h : PutI l s k dn out) (hk : k < l.length) (e : sg l k = s) : putS l s = l := by
  cases dn with
  | true => exact absurd e (h.no rfl k (Nat.le_refl _) hk)
  | false =>
    rw [h.eq, h.at' rfl, if_neg (by decide), drop_sg hk]
    rw [putS_cons, if_pos e, ← drop_sg hk, List.take_append_drop]
/-- It is laid in ahead of the next one. -/
theorem PutI.lay {l : List OSt} {s : OSt} {k : Nat} {out : List OSt} (h : PutI l s k false out) (hs : SrtS l) (hk : k < l.length) (e : sg l k ≠ s) (hl : ltS s (sg l k) = true) : PutI l s (k + 1) true (out ++ [s] ++ [sg l k]) := by
  refine ⟨?_, fun _ j hj hjl e2 => ?_, fun h => (by cases h), ?_⟩
  · rw [h.eq, if_neg (by decide), if_pos rfl, drop_sg hk]
    rw [putS_cons, if_neg e, if_pos hl]
    simp
  · have h1 := srt_lt hs (show k < j by omega) hjl
    rw [e2] at h1
    have h2 := ltS_asym h1
    rw [h2] at hl
    cases hl
  · have h1 := h.at' rfl
    subst h1
    simp only [List.length_append, List.length_take, List.length_cons, List.length_nil]
    omega
/-- The next one alone. -/
theorem PutI.go {l : List OSt} {s : OSt} {k : Nat} {dn : Bool} {out : List OSt} (h : PutI l s k dn out) (hk : k < l.length) (e : sg l k ≠ s) (hl : dn = true ∨ ltS s (sg l k) = false) : PutI l s (k + 1) dn (out ++ [sg l k]) := by
  cases dn with
  | true =>
    refine ⟨?_, fun _ j hj hjl => h.no rfl j (by omega) hjl, fun h => (by cases h), by have := h.le; simp; omega⟩
    rw [h.eq, if_pos rfl, if_pos rfl, drop_sg hk]
    simp
  | false =>
    have hl' : ltS s (sg l k) = false := hl.resolve_left (by decide)
    refine ⟨?_, fun h => (by cases h), fun _ => ?_, by have := h.le; simp; omega⟩
    · rw [h.eq, if_neg (by decide), if_neg (by decide), drop_sg hk]
      rw [putS_cons, if_neg e, if_neg (by rw [hl']; decide)]
      simp
    · rw [h.at' rfl, sg_take hk]
/-- All done. -/
theorem PutI.fin {l : List OSt} {s : OSt} {dn : Bool} {out : List OSt} (h : PutI l s l.length dn out) : putS l s = if dn = true then out else out ++ [s] := by
  rw [h.eq, List.drop_length]
  cases dn with
  | true => simp
  | false => rfl

def PutPost (l : List OSt) (s : OSt) (w : World) (e : Ending) (w' : World) : Prop :=
  ∃ a' c', e = .returned (.slice a' (putS l s).length c') ∧ (putS l s).length ≤ c' ∧ Reads w' a' ((putS l s).length * 2) (osts (putS l s)) ∧ Below w.heap.size w w'
theorem scells_snoc (l : List OSt) (s : OSt) : scells (l ++ [s]) = scells l ++ [.int .i64 s.1, .bool s.2] := by
  unfold scells
  rw [List.flatMap_append]
  rfl

set_option maxHeartbeats 6400000 in
set_option maxRecDepth 100000 in
theorem rPut_any (l : List OSt) (s : OSt) (a : Option Addr) (cap : Nat) (w : World) (hlen : l.length ≤ 100000) (hcap : l.length ≤ cap) (hs : SrtS l) (hr : Reads w a (l.length * 2) (osts l)) :
    Calls Tryz.prog 171 #[.slice a l.length cap, .agg #[.int .i64 s.1, .bool s.2]] w (PutPost l s w) := by
  have HA := Lib.hid hr
  have HS := Lib.hid hs
  have HFD := Lib.hid (fun k dn out (h : PutI l s k dn out) hk e => h.found hk e)
  have HLY := Lib.hid (fun k out (h : PutI l s k false out) hk e hl => h.lay hs hk e hl)
  have HGO := Lib.hid (fun k dn out (h : PutI l s k dn out) hk e hl => h.go hk e hl)
  have HFN := Lib.hid (fun dn out (h : PutI l s l.length dn out) => h.fin)
  have HST := Lib.hid (PutI.start l s)
  obtain ⟨n, hn⟩ : ∃ n, l.length = n := ⟨_, rfl⟩
  have HN := Lib.hid hn
  rw [hn] at HA HFD HLY HGO HFN hlen hcap ⊢
  clear hr hs hn
  obtain ⟨s1, s2⟩ := s
  dsimp only
  go_enter Tryz.func171, Tryz.ntmps171
  go_wp2_with fail
  obtain ⟨W, hW⟩ : ∃ W, w.alloc (.cells #[.int .i64 s1, .bool s2] 46) = W := ⟨_, rfl⟩
  rw [hW]
  have K3 : Hid (Blk W w.heap.size #[.int .i64 s1, .bool s2]) := by subst hW; exact Lib.hid (Blk.new _ _ _)
  have HB : Hid (Below w.heap.size w W) := by subst hW; exact Lib.hid (bAlloc (bSelf w) _)
  replace HA := Lib.hid (HA.out.to HB.out)
  clear hW
  go_loopw [5, 6, 7] (fun s5 s6 s7 wr => ∃ (k : Nat) (va : Option Addr) (vc : Nat) (dn : Bool) (out : List OSt), s5 = .slice va out.length vc ∧ s6 = .bool dn ∧ s7 = .int .i64 k ∧ k ≤ n ∧ Hid (PutI l (s1, s2) k dn out) ∧ Hid (wr.ownsRow W.heap.size 46 2 (.slice va out.length vc) out.length (scells out)) ∧ Hid (Below W.heap.size W wr)) (fun _ _ s7 _ => n - (intOf s7).toNat)
  case atStart => exact ⟨0, none, 0, false, [], rfl, rfl, rfl, Nat.zero_le _, HST, Lib.hid ⟨by simp [scells], .inl ⟨rfl, rfl⟩⟩, Lib.hid (bSelf W)⟩
  case round =>
    obtain ⟨k, va, vc, dn, out, rfl, rfl, rfl, hk, HP, HO, HR0⟩ := hrel
    have hol := HP.out.le
    obtain ⟨m, hm⟩ : ∃ m, out.length = m := ⟨_, rfl⟩
    have HM := Lib.hid hm
    rw [hm] at HO hol ⊢
    clear hm
    obtain ⟨-, k3, -⟩ := K3.out.to HR0.out
    by_cases hlt : k < n
    · obtain ⟨ba, oa, rfl, hba, hca⟩ := HA.out.at (k := k * 2) (by omega)
      obtain ⟨⟨n1, d1⟩, hz⟩ : ∃ q, sg l k = q := ⟨_, rfl⟩
      have h1 : Hid (W.cell? ⟨ba, oa + k * 2, none⟩ = some (.int .i64 n1)) := Lib.hid (by rw [hca _ (by omega), osts0, hz])
      have h2 : Hid (W.cell? ⟨ba, oa + k * 2 + 1, none⟩ = some (.bool d1)) := Lib.hid (by rw [Nat.add_assoc, hca _ (by omega), osts1, hz])
      have HFK := Lib.hid (fun e => HFD.out k dn out HP.out hlt e)
      have HGK := Lib.hid (fun e hl => HGO.out k dn out HP.out hlt e hl)
      have HLK := Lib.hid (fun (hd : dn = false) e hl => HLY.out k out (by subst hd; exact HP.out) hlt e hl)
      rw [hz] at HFK HGK HLK
      clear hca hz HFD HGO HFN HST HLY
      by_cases he : (n1, d1) = (s1, s2)
      · cases he
        have hput := HFK.out rfl
        go_wp2_with fail
        clear k3
        refine wp_region_quiet_all (fun w' => Below (World.heap wr).size (wr) w') (by kernel_rfl) (by kernel_rfl) (Below.refl _ _).drew ?_
        refine WQ.out ?_
        repeat (first | (refine WQ_no (by rfl) ?_; (simp only [Act.put, List.setIfInBounds_toArray, List.set_cons_zero, List.set_cons_succ])) | (refine WQ_yes (by rfl) ?_; apply Exists.intro; refine ⟨fun w1 hb1 => ?_, ?_⟩; (focus (((have k1 := ((HR0.out.trans (hb1.mono HR0.out.size)).cell (p := ⟨ba, oa + k * 2, none⟩) hba).trans h1.out; have k2 := ((HR0.out.trans (hb1.mono HR0.out.size)).cell (p := ⟨ba, oa + k * 2 + 1, none⟩) hba).trans h2.out; obtain ⟨-, k3, -⟩ := K3.out.to (HR0.out.trans (hb1.mono HR0.out.size))); have hb1 := Lib.hid hb1; go_simp); (try (go_bits; try go_simp)); (try (rw [if_pos (by omega)]; try go_simp)); (first | done | (fail) | (with_reducible rfl) | exact rfl))); (simp only [Act.put, List.setIfInBounds_toArray, List.set_cons_zero, List.set_cons_succ])))
        refine WQ_nil ?_
        intro w1 hb1
        have HB1 := Lib.hid (HR0.out.trans (hb1.mono HR0.out.size))
        clear hb1
        go_wp2_with fail
        go_ret
        refine ⟨some ⟨ba, oa, none⟩, cap, ?_, ?_, ?_, bThen HB.out HB1.out⟩
        · rw [hput, HN.out]; rfl
        · rw [hput, HN.out]; exact hcap
        · rw [hput, HN.out]; exact HA.out.to HB1.out
      · have HE := Lib.hid he
        have hcs : (¬ n1 = s1) ∨ (n1 = s1 ∧ ¬ d1 = s2) := by
          by_cases h : n1 = s1
          · exact .inr ⟨h, fun h2 => he (by rw [h, h2])⟩
          · exact .inl h
        clear he HFK
        replace HGK := Lib.hid (fun hl => HGK.out HE.out hl)
        replace HLK := Lib.hid (fun hd hl => HLK.out hd HE.out hl)
        have HLS := Lib.hid (fun W => rLess_any (s1, s2) (n1, d1) W)
        obtain ⟨lt, hlt'⟩ : ∃ b, ltS (s1, s2) (n1, d1) = b := ⟨_, rfl⟩
        rw [hlt'] at HLS HGK HLK
        dsimp only at HLS
        clear hlt' HE
        rcases hcs with hn | ⟨rfl, hn⟩
        · go_wp2_with fail
          clear k3
          refine wp_region_quiet_all (fun w' => Below (World.heap wr).size (wr) w') (by kernel_rfl) (by kernel_rfl) (Below.refl _ _).drew ?_
          refine WQ.out ?_
          repeat (first | (refine WQ_no (by rfl) ?_; (simp only [Act.put, List.setIfInBounds_toArray, List.set_cons_zero, List.set_cons_succ])) | (refine WQ_yes (by rfl) ?_; apply Exists.intro; refine ⟨fun w1 hb1 => ?_, ?_⟩; (focus (((have k1 := ((HR0.out.trans (hb1.mono HR0.out.size)).cell (p := ⟨ba, oa + k * 2, none⟩) hba).trans h1.out; have k2 := ((HR0.out.trans (hb1.mono HR0.out.size)).cell (p := ⟨ba, oa + k * 2 + 1, none⟩) hba).trans h2.out; obtain ⟨-, k3, -⟩ := K3.out.to (HR0.out.trans (hb1.mono HR0.out.size))); have hb1 := Lib.hid hb1; go_simp); (try (go_bits; try go_simp)); (try (rw [if_pos (by omega)]; try go_simp)); (first | done | (fail) | (with_reducible rfl) | exact rfl))); (simp only [Act.put, List.setIfInBounds_toArray, List.set_cons_zero, List.set_cons_succ])))
          refine WQ_nil ?_
          intro w1 hb1
          have HOw := Lib.hid (owns_to HO.out hb1)
          replace HR0 := Lib.hid (HR0.out.trans (hb1.mono HR0.out.size))
          clear hb1 HO
          go_wp2_with fail
          cases dn
          · cases lt
            · obtain ⟨wx, hwx⟩ : ∃ x, x = w1 := ⟨_, rfl⟩
              subst hwx
              refine wp_region_quiet_all (fun w' => Below (World.heap wx).size (wx) w') (by kernel_rfl) (by kernel_rfl) (Below.refl _ _).drew ?_
              refine WQ.out ?_
              repeat (first | (refine WQ_no (by rfl) ?_; (simp only [Act.put, List.setIfInBounds_toArray, List.set_cons_zero, List.set_cons_succ])) | (refine WQ_yes (by rfl) ?_; apply Exists.intro; refine ⟨fun w1 hb1 => ?_, ?_⟩; (focus (((have k1 := ((HR0.out.trans (hb1.mono HR0.out.size)).cell (p := ⟨ba, oa + k * 2, none⟩) hba).trans h1.out; have k2 := ((HR0.out.trans (hb1.mono HR0.out.size)).cell (p := ⟨ba, oa + k * 2 + 1, none⟩) hba).trans h2.out; obtain ⟨-, k3, -⟩ := K3.out.to (HR0.out.trans (hb1.mono HR0.out.size))); have hb1 := Lib.hid hb1; go_simp); (try (go_bits; try go_simp)); (try (rw [if_pos (by omega)]; try go_simp)); (first | done | ((go_at_call 130; refine (HLS.out _).mono ?_; rintro e w' ⟨rfl, hb⟩; exact ⟨rfl, bThen hb1.out hb⟩)) | (with_reducible rfl) | exact rfl))); (simp only [Act.put, List.setIfInBounds_toArray, List.set_cons_zero, List.set_cons_succ])))
              refine WQ_nil ?_
              intro w1 hb1
              replace HOw := Lib.hid (owns_to HOw.out hb1)
              have HRw := Lib.hid (HR0.out.trans (hb1.mono HR0.out.size))
              clear hb1 HR0 HLS
              have HPN := Lib.hid (HGK.out (.inr rfl))
              clear HGK HLK
              have HROW := Lib.hid (HOw.out.alloc (.cells #[.int .i64 n1, .bool d1] 46))
              have HNN := Lib.hid (Blk.new w1 #[.int .i64 n1, .bool d1] 46).news
              have hlo := Lib.hid HOw.out.lt
              have hsw : W.heap.size ≤ w1.heap.size := HRw.out.size
              have k1 := (HRw.out.cell (p := ⟨ba, oa + k * 2, none⟩) hba).trans h1.out
              have k2 := (HRw.out.cell (p := ⟨ba, oa + k * 2 + 1, none⟩) hba).trans h2.out
              obtain ⟨-, k3, -⟩ := K3.out.to HRw.out
              go_wp2_with (at_builtin; go_loud (refine wpList_app W.heap.size rtSt rfl (.tmp 35) (.tmp 40) rfl _ m _ rfl HROW.out ⟨w1.heap.size, 0, none⟩ 1 1 [.int .i64 n1, .bool d1] rfl rfl (by simpa using HNN.out) (onesS [(n1, d1)]) (by unfold maxLen; omega) (by omega) (by simp; omega) ?_; intro v' w7 hown' hgrow _ hwhere; obtain ⟨va', vc', rfl⟩ := ownsRow_sl hown'; have HO7 := Lib.hid hown'; have HG7 := Lib.hid hgrow; clear hown' hgrow hwhere k1 k2 k3))
              have HRn : Hid (Below W.heap.size W w7) := Lib.hid (HRw.out.trans (((Below.refl _ _).alloc hsw _).grown HG7.out (by simp; omega) (fun k e => (hlo.out k e).1)))
              go_roundw
              case rel => exact ⟨k + 1, va', vc', false, out ++ [(n1, d1)], by rw [show (out ++ [(n1, d1)]).length = m + 1 by rw [List.length_append, HM.out]; rfl], rfl, by go_num, by omega, Lib.hid HPN.out, Lib.hid (by rw [show (out ++ [(n1, d1)]).length = m + 1 by rw [List.length_append, HM.out]; rfl, scells_snoc]; exact HO7.out), HRn⟩
              case measure => simp [intOf]; omega
            · obtain ⟨wx, hwx⟩ : ∃ x, x = w1 := ⟨_, rfl⟩
              subst hwx
              refine wp_region_quiet_all (fun w' => Below (World.heap wx).size (wx) w') (by kernel_rfl) (by kernel_rfl) (Below.refl _ _).drew ?_
              refine WQ.out ?_
              repeat (first | (refine WQ_no (by rfl) ?_; (simp only [Act.put, List.setIfInBounds_toArray, List.set_cons_zero, List.set_cons_succ])) | (refine WQ_yes (by rfl) ?_; apply Exists.intro; refine ⟨fun w1 hb1 => ?_, ?_⟩; (focus (((have k1 := ((HR0.out.trans (hb1.mono HR0.out.size)).cell (p := ⟨ba, oa + k * 2, none⟩) hba).trans h1.out; have k2 := ((HR0.out.trans (hb1.mono HR0.out.size)).cell (p := ⟨ba, oa + k * 2 + 1, none⟩) hba).trans h2.out; obtain ⟨-, k3, -⟩ := K3.out.to (HR0.out.trans (hb1.mono HR0.out.size))); have hb1 := Lib.hid hb1; go_simp); (try (go_bits; try go_simp)); (try (rw [if_pos (by omega)]; try go_simp)); (first | done | ((go_at_call 130; refine (HLS.out _).mono ?_; rintro e w' ⟨rfl, hb⟩; exact ⟨rfl, bThen hb1.out hb⟩)) | (with_reducible rfl) | exact rfl))); (simp only [Act.put, List.setIfInBounds_toArray, List.set_cons_zero, List.set_cons_succ])))
              refine WQ_nil ?_
              intro w1 hb1
              replace HOw := Lib.hid (owns_to HOw.out hb1)
              have HRw := Lib.hid (HR0.out.trans (hb1.mono HR0.out.size))
              clear hb1 HR0 HLS
              have HPN := Lib.hid (HLK.out rfl rfl)
              clear HGK HLK
              have HROW := Lib.hid (HOw.out.alloc (.cells #[.int .i64 s1, .bool s2] 46))
              have HNN := Lib.hid (Blk.new w1 #[.int .i64 s1, .bool s2] 46).news
              have hlo := Lib.hid HOw.out.lt
              have hsw : W.heap.size ≤ w1.heap.size := HRw.out.size
              have k1 := (HRw.out.cell (p := ⟨ba, oa + k * 2, none⟩) hba).trans h1.out
              have k2 := (HRw.out.cell (p := ⟨ba, oa + k * 2 + 1, none⟩) hba).trans h2.out
              obtain ⟨-, k3, -⟩ := K3.out.to HRw.out
              go_upto_region 10 with (at_builtin; go_loud (refine wpList_app W.heap.size rtSt rfl (.tmp 31) (.tmp 33) rfl _ m _ rfl HROW.out ⟨w1.heap.size, 0, none⟩ 1 1 [.int .i64 s1, .bool s2] rfl rfl (by simpa using HNN.out) (onesS [(s1, s2)]) (by unfold maxLen; omega) (by omega) (by simp; omega) ?_; intro v' w6 hown' hgrow _ hwhere; obtain ⟨va', vc', rfl⟩ := ownsRow_sl hown'; have HO7 := Lib.hid hown'; have HG7 := Lib.hid hgrow; clear hown' hgrow hwhere k1 k2 k3))
              have HR6 : Hid (Below W.heap.size W w6) := Lib.hid (HRw.out.trans (((Below.refl _ _).alloc hsw _).grown HG7.out (by simp; omega) (fun k e => (hlo.out k e).1)))
              have HO6 := Lib.hid HO7.out
              replace HRw := Lib.hid HR6.out
              clear HR6 HROW HNN hlo hsw HOw HG7 HO7
              have HROW := Lib.hid (HO6.out.alloc (.cells #[.int .i64 n1, .bool d1] 46))
              have HNN := Lib.hid (Blk.new w6 #[.int .i64 n1, .bool d1] 46).news
              have hlo := Lib.hid HO6.out.lt
              have hsw : W.heap.size ≤ w6.heap.size := HRw.out.size
              have k1 := (HRw.out.cell (p := ⟨ba, oa + k * 2, none⟩) hba).trans h1.out
              have k2 := (HRw.out.cell (p := ⟨ba, oa + k * 2 + 1, none⟩) hba).trans h2.out
              obtain ⟨-, k3, -⟩ := K3.out.to HRw.out
              go_wp2_with (at_builtin; go_loud (refine wpList_app W.heap.size rtSt rfl (.tmp 35) (.tmp 40) rfl _ (m + 1) _ rfl HROW.out ⟨w6.heap.size, 0, none⟩ 1 1 [.int .i64 n1, .bool d1] rfl rfl (by simpa using HNN.out) (onesS [(n1, d1)]) (by unfold maxLen; omega) (by omega) (by simp; omega) ?_; intro v' w7 hown' hgrow _ hwhere; obtain ⟨va', vc', rfl⟩ := ownsRow_sl hown'; have HO7 := Lib.hid hown'; have HG7 := Lib.hid hgrow; clear hown' hgrow hwhere k1 k2 k3))
              have HRn : Hid (Below W.heap.size W w7) := Lib.hid (HRw.out.trans (((Below.refl _ _).alloc hsw _).grown HG7.out (by simp; omega) (fun k e => (hlo.out k e).1)))
              go_roundw
              case rel => exact ⟨k + 1, va', vc', true, out ++ [(s1, s2)] ++ [(n1, d1)], by rw [show (out ++ [(s1, s2)] ++ [(n1, d1)]).length = m + 1 + 1 by rw [List.length_append, List.length_append, HM.out]; rfl], rfl, by go_num, by omega, Lib.hid HPN.out, Lib.hid (by rw [show (out ++ [(s1, s2)] ++ [(n1, d1)]).length = m + 1 + 1 by rw [List.length_append, List.length_append, HM.out]; rfl, scells_snoc, scells_snoc]; exact HO7.out), HRn⟩
              case measure => simp [intOf]; omega
          · obtain ⟨wx, hwx⟩ : ∃ x, x = w1 := ⟨_, rfl⟩
            subst hwx
            refine wp_region_quiet_all (fun w' => Below (World.heap wx).size (wx) w') (by kernel_rfl) (by kernel_rfl) (Below.refl _ _).drew ?_
            refine WQ.out ?_
            repeat (first | (refine WQ_no (by rfl) ?_; (simp only [Act.put, List.setIfInBounds_toArray, List.set_cons_zero, List.set_cons_succ])) | (refine WQ_yes (by rfl) ?_; apply Exists.intro; refine ⟨fun w1 hb1 => ?_, ?_⟩; (focus (((have k1 := ((HR0.out.trans (hb1.mono HR0.out.size)).cell (p := ⟨ba, oa + k * 2, none⟩) hba).trans h1.out; have k2 := ((HR0.out.trans (hb1.mono HR0.out.size)).cell (p := ⟨ba, oa + k * 2 + 1, none⟩) hba).trans h2.out; obtain ⟨-, k3, -⟩ := K3.out.to (HR0.out.trans (hb1.mono HR0.out.size))); have hb1 := Lib.hid hb1; go_simp); (try (go_bits; try go_simp)); (try (rw [if_pos (by omega)]; try go_simp)); (first | done | (fail) | (with_reducible rfl) | exact rfl))); (simp only [Act.put, List.setIfInBounds_toArray, List.set_cons_zero, List.set_cons_succ])))
            refine WQ_nil ?_
            intro w1 hb1
            replace HOw := Lib.hid (owns_to HOw.out hb1)
            have HRw := Lib.hid (HR0.out.trans (hb1.mono HR0.out.size))
            clear hb1 HR0 HLS
            have HPN := Lib.hid (HGK.out (.inl rfl))
            clear HGK HLK
            have HROW := Lib.hid (HOw.out.alloc (.cells #[.int .i64 n1, .bool d1] 46))
            have HNN := Lib.hid (Blk.new w1 #[.int .i64 n1, .bool d1] 46).news
            have hlo := Lib.hid HOw.out.lt
            have hsw : W.heap.size ≤ w1.heap.size := HRw.out.size
            have k1 := (HRw.out.cell (p := ⟨ba, oa + k * 2, none⟩) hba).trans h1.out
            have k2 := (HRw.out.cell (p := ⟨ba, oa + k * 2 + 1, none⟩) hba).trans h2.out
            obtain ⟨-, k3, -⟩ := K3.out.to HRw.out
            go_wp2_with (at_builtin; go_loud (refine wpList_app W.heap.size rtSt rfl (.tmp 35) (.tmp 40) rfl _ m _ rfl HROW.out ⟨w1.heap.size, 0, none⟩ 1 1 [.int .i64 n1, .bool d1] rfl rfl (by simpa using HNN.out) (onesS [(n1, d1)]) (by unfold maxLen; omega) (by omega) (by simp; omega) ?_; intro v' w7 hown' hgrow _ hwhere; obtain ⟨va', vc', rfl⟩ := ownsRow_sl hown'; have HO7 := Lib.hid hown'; have HG7 := Lib.hid hgrow; clear hown' hgrow hwhere k1 k2 k3))
            have HRn : Hid (Below W.heap.size W w7) := Lib.hid (HRw.out.trans (((Below.refl _ _).alloc hsw _).grown HG7.out (by simp; omega) (fun k e => (hlo.out k e).1)))
            go_roundw
            case rel => exact ⟨k + 1, va', vc', true, out ++ [(n1, d1)], by rw [show (out ++ [(n1, d1)]).length = m + 1 by rw [List.length_append, HM.out]; rfl], rfl, by go_num, by omega, Lib.hid HPN.out, Lib.hid (by rw [show (out ++ [(n1, d1)]).length = m + 1 by rw [List.length_append, HM.out]; rfl, scells_snoc]; exact HO7.out), HRn⟩
            case measure => simp [intOf]; omega
        · go_wp2_with fail
          clear k3
          refine wp_region_quiet_all (fun w' => Below (World.heap wr).size (wr) w') (by kernel_rfl) (by kernel_rfl) (Below.refl _ _).drew ?_
          refine WQ.out ?_
          repeat (first | (refine WQ_no (by rfl) ?_; (simp only [Act.put, List.setIfInBounds_toArray, List.set_cons_zero, List.set_cons_succ])) | (refine WQ_yes (by rfl) ?_; apply Exists.intro; refine ⟨fun w1 hb1 => ?_, ?_⟩; (focus (((have k1 := ((HR0.out.trans (hb1.mono HR0.out.size)).cell (p := ⟨ba, oa + k * 2, none⟩) hba).trans h1.out; have k2 := ((HR0.out.trans (hb1.mono HR0.out.size)).cell (p := ⟨ba, oa + k * 2 + 1, none⟩) hba).trans h2.out; obtain ⟨-, k3, -⟩ := K3.out.to (HR0.out.trans (hb1.mono HR0.out.size))); have hb1 := Lib.hid hb1; go_simp); (try (go_bits; try go_simp)); (try (rw [if_pos (by omega)]; try go_simp)); (first | done | (fail) | (with_reducible rfl) | exact rfl))); (simp only [Act.put, List.setIfInBounds_toArray, List.set_cons_zero, List.set_cons_succ])))
          refine WQ_nil ?_
          intro w1 hb1
          have HOw := Lib.hid (owns_to HO.out hb1)
          replace HR0 := Lib.hid (HR0.out.trans (hb1.mono HR0.out.size))
          clear hb1 HO
          go_wp2_with fail
          cases dn
          · cases lt
            · obtain ⟨wx, hwx⟩ : ∃ x, x = w1 := ⟨_, rfl⟩
              subst hwx
              refine wp_region_quiet_all (fun w' => Below (World.heap wx).size (wx) w') (by kernel_rfl) (by kernel_rfl) (Below.refl _ _).drew ?_
              refine WQ.out ?_
              repeat (first | (refine WQ_no (by rfl) ?_; (simp only [Act.put, List.setIfInBounds_toArray, List.set_cons_zero, List.set_cons_succ])) | (refine WQ_yes (by rfl) ?_; apply Exists.intro; refine ⟨fun w1 hb1 => ?_, ?_⟩; (focus (((have k1 := ((HR0.out.trans (hb1.mono HR0.out.size)).cell (p := ⟨ba, oa + k * 2, none⟩) hba).trans h1.out; have k2 := ((HR0.out.trans (hb1.mono HR0.out.size)).cell (p := ⟨ba, oa + k * 2 + 1, none⟩) hba).trans h2.out; obtain ⟨-, k3, -⟩ := K3.out.to (HR0.out.trans (hb1.mono HR0.out.size))); have hb1 := Lib.hid hb1; go_simp); (try (go_bits; try go_simp)); (try (rw [if_pos (by omega)]; try go_simp)); (first | done | ((go_at_call 130; refine (HLS.out _).mono ?_; rintro e w' ⟨rfl, hb⟩; exact ⟨rfl, bThen hb1.out hb⟩)) | (with_reducible rfl) | exact rfl))); (simp only [Act.put, List.setIfInBounds_toArray, List.set_cons_zero, List.set_cons_succ])))
              refine WQ_nil ?_
              intro w1 hb1
              replace HOw := Lib.hid (owns_to HOw.out hb1)
              have HRw := Lib.hid (HR0.out.trans (hb1.mono HR0.out.size))
              clear hb1 HR0 HLS
              have HPN := Lib.hid (HGK.out (.inr rfl))
              clear HGK HLK
              have HROW := Lib.hid (HOw.out.alloc (.cells #[.int .i64 n1, .bool d1] 46))
              have HNN := Lib.hid (Blk.new w1 #[.int .i64 n1, .bool d1] 46).news
              have hlo := Lib.hid HOw.out.lt
              have hsw : W.heap.size ≤ w1.heap.size := HRw.out.size
              have k1 := (HRw.out.cell (p := ⟨ba, oa + k * 2, none⟩) hba).trans h1.out
              have k2 := (HRw.out.cell (p := ⟨ba, oa + k * 2 + 1, none⟩) hba).trans h2.out
              obtain ⟨-, k3, -⟩ := K3.out.to HRw.out
              go_wp2_with (at_builtin; go_loud (refine wpList_app W.heap.size rtSt rfl (.tmp 35) (.tmp 40) rfl _ m _ rfl HROW.out ⟨w1.heap.size, 0, none⟩ 1 1 [.int .i64 n1, .bool d1] rfl rfl (by simpa using HNN.out) (onesS [(n1, d1)]) (by unfold maxLen; omega) (by omega) (by simp; omega) ?_; intro v' w7 hown' hgrow _ hwhere; obtain ⟨va', vc', rfl⟩ := ownsRow_sl hown'; have HO7 := Lib.hid hown'; have HG7 := Lib.hid hgrow; clear hown' hgrow hwhere k1 k2 k3))
              have HRn : Hid (Below W.heap.size W w7) := Lib.hid (HRw.out.trans (((Below.refl _ _).alloc hsw _).grown HG7.out (by simp; omega) (fun k e => (hlo.out k e).1)))
              go_roundw
              case rel => exact ⟨k + 1, va', vc', false, out ++ [(n1, d1)], by rw [show (out ++ [(n1, d1)]).length = m + 1 by rw [List.length_append, HM.out]; rfl], rfl, by go_num, by omega, Lib.hid HPN.out, Lib.hid (by rw [show (out ++ [(n1, d1)]).length = m + 1 by rw [List.length_append, HM.out]; rfl, scells_snoc]; exact HO7.out), HRn⟩
              case measure => simp [intOf]; omega
            · obtain ⟨wx, hwx⟩ : ∃ x, x = w1 := ⟨_, rfl⟩
              subst hwx
              refine wp_region_quiet_all (fun w' => Below (World.heap wx).size (wx) w') (by kernel_rfl) (by kernel_rfl) (Below.refl _ _).drew ?_
              refine WQ.out ?_
              repeat (first | (refine WQ_no (by rfl) ?_; (simp only [Act.put, List.setIfInBounds_toArray, List.set_cons_zero, List.set_cons_succ])) | (refine WQ_yes (by rfl) ?_; apply Exists.intro; refine ⟨fun w1 hb1 => ?_, ?_⟩; (focus (((have k1 := ((HR0.out.trans (hb1.mono HR0.out.size)).cell (p := ⟨ba, oa + k * 2, none⟩) hba).trans h1.out; have k2 := ((HR0.out.trans (hb1.mono HR0.out.size)).cell (p := ⟨ba, oa + k * 2 + 1, none⟩) hba).trans h2.out; obtain ⟨-, k3, -⟩ := K3.out.to (HR0.out.trans (hb1.mono HR0.out.size))); have hb1 := Lib.hid hb1; go_simp); (try (go_bits; try go_simp)); (try (rw [if_pos (by omega)]; try go_simp)); (first | done | ((go_at_call 130; refine (HLS.out _).mono ?_; rintro e w' ⟨rfl, hb⟩; exact ⟨rfl, bThen hb1.out hb⟩)) | (with_reducible rfl) | exact rfl))); (simp only [Act.put, List.setIfInBounds_toArray, List.set_cons_zero, List.set_cons_succ])))
              refine WQ_nil ?_
              intro w1 hb1
              replace HOw := Lib.hid (owns_to HOw.out hb1)
              have HRw := Lib.hid (HR0.out.trans (hb1.mono HR0.out.size))
              clear hb1 HR0 HLS
              have HPN := Lib.hid (HLK.out rfl rfl)
              clear HGK HLK
              have HROW := Lib.hid (HOw.out.alloc (.cells #[.int .i64 n1, .bool s2] 46))
              have HNN := Lib.hid (Blk.new w1 #[.int .i64 n1, .bool s2] 46).news
              have hlo := Lib.hid HOw.out.lt
              have hsw : W.heap.size ≤ w1.heap.size := HRw.out.size
              have k1 := (HRw.out.cell (p := ⟨ba, oa + k * 2, none⟩) hba).trans h1.out
              have k2 := (HRw.out.cell (p := ⟨ba, oa + k * 2 + 1, none⟩) hba).trans h2.out
              obtain ⟨-, k3, -⟩ := K3.out.to HRw.out
              go_upto_region 10 with (at_builtin; go_loud (refine wpList_app W.heap.size rtSt rfl (.tmp 31) (.tmp 33) rfl _ m _ rfl HROW.out ⟨w1.heap.size, 0, none⟩ 1 1 [.int .i64 n1, .bool s2] rfl rfl (by simpa using HNN.out) (onesS [(n1, s2)]) (by unfold maxLen; omega) (by omega) (by simp; omega) ?_; intro v' w6 hown' hgrow _ hwhere; obtain ⟨va', vc', rfl⟩ := ownsRow_sl hown'; have HO7 := Lib.hid hown'; have HG7 := Lib.hid hgrow; clear hown' hgrow hwhere k1 k2 k3))
              have HR6 : Hid (Below W.heap.size W w6) := Lib.hid (HRw.out.trans (((Below.refl _ _).alloc hsw _).grown HG7.out (by simp; omega) (fun k e => (hlo.out k e).1)))
              have HO6 := Lib.hid HO7.out
              replace HRw := Lib.hid HR6.out
              clear HR6 HROW HNN hlo hsw HOw HG7 HO7
              have HROW := Lib.hid (HO6.out.alloc (.cells #[.int .i64 n1, .bool d1] 46))
              have HNN := Lib.hid (Blk.new w6 #[.int .i64 n1, .bool d1] 46).news
              have hlo := Lib.hid HO6.out.lt
              have hsw : W.heap.size ≤ w6.heap.size := HRw.out.size
              have k1 := (HRw.out.cell (p := ⟨ba, oa + k * 2, none⟩) hba).trans h1.out
              have k2 := (HRw.out.cell (p := ⟨ba, oa + k * 2 + 1, none⟩) hba).trans h2.out
              obtain ⟨-, k3, -⟩ := K3.out.to HRw.out
              go_wp2_with (at_builtin; go_loud (refine wpList_app W.heap.size rtSt rfl (.tmp 35) (.tmp 40) rfl _ (m + 1) _ rfl HROW.out ⟨w6.heap.size, 0, none⟩ 1 1 [.int .i64 n1, .bool d1] rfl rfl (by simpa using HNN.out) (onesS [(n1, d1)]) (by unfold maxLen; omega) (by omega) (by simp; omega) ?_; intro v' w7 hown' hgrow _ hwhere; obtain ⟨va', vc', rfl⟩ := ownsRow_sl hown'; have HO7 := Lib.hid hown'; have HG7 := Lib.hid hgrow; clear hown' hgrow hwhere k1 k2 k3))
              have HRn : Hid (Below W.heap.size W w7) := Lib.hid (HRw.out.trans (((Below.refl _ _).alloc hsw _).grown HG7.out (by simp; omega) (fun k e => (hlo.out k e).1)))
              go_roundw
              case rel => exact ⟨k + 1, va', vc', true, out ++ [(n1, s2)] ++ [(n1, d1)], by rw [show (out ++ [(n1, s2)] ++ [(n1, d1)]).length = m + 1 + 1 by rw [List.length_append, List.length_append, HM.out]; rfl], rfl, by go_num, by omega, Lib.hid HPN.out, Lib.hid (by rw [show (out ++ [(n1, s2)] ++ [(n1, d1)]).length = m + 1 + 1 by rw [List.length_append, List.length_append, HM.out]; rfl, scells_snoc, scells_snoc]; exact HO7.out), HRn⟩
              case measure => simp [intOf]; omega
          · obtain ⟨wx, hwx⟩ : ∃ x, x = w1 := ⟨_, rfl⟩
            subst hwx
            refine wp_region_quiet_all (fun w' => Below (World.heap wx).size (wx) w') (by kernel_rfl) (by kernel_rfl) (Below.refl _ _).drew ?_
            refine WQ.out ?_
            repeat (first | (refine WQ_no (by rfl) ?_; (simp only [Act.put, List.setIfInBounds_toArray, List.set_cons_zero, List.set_cons_succ])) | (refine WQ_yes (by rfl) ?_; apply Exists.intro; refine ⟨fun w1 hb1 => ?_, ?_⟩; (focus (((have k1 := ((HR0.out.trans (hb1.mono HR0.out.size)).cell (p := ⟨ba, oa + k * 2, none⟩) hba).trans h1.out; have k2 := ((HR0.out.trans (hb1.mono HR0.out.size)).cell (p := ⟨ba, oa + k * 2 + 1, none⟩) hba).trans h2.out; obtain ⟨-, k3, -⟩ := K3.out.to (HR0.out.trans (hb1.mono HR0.out.size))); have hb1 := Lib.hid hb1; go_simp); (try (go_bits; try go_simp)); (try (rw [if_pos (by omega)]; try go_simp)); (first | done | (fail) | (with_reducible rfl) | exact rfl))); (simp only [Act.put, List.setIfInBounds_toArray, List.set_cons_zero, List.set_cons_succ])))
            refine WQ_nil ?_
            intro w1 hb1
            replace HOw := Lib.hid (owns_to HOw.out hb1)
            have HRw := Lib.hid (HR0.out.trans (hb1.mono HR0.out.size))
            clear hb1 HR0 HLS
            have HPN := Lib.hid (HGK.out (.inl rfl))
            clear HGK HLK
            have HROW := Lib.hid (HOw.out.alloc (.cells #[.int .i64 n1, .bool d1] 46))
            have HNN := Lib.hid (Blk.new w1 #[.int .i64 n1, .bool d1] 46).news
            have hlo := Lib.hid HOw.out.lt
            have hsw : W.heap.size ≤ w1.heap.size := HRw.out.size
            have k1 := (HRw.out.cell (p := ⟨ba, oa + k * 2, none⟩) hba).trans h1.out
            have k2 := (HRw.out.cell (p := ⟨ba, oa + k * 2 + 1, none⟩) hba).trans h2.out
            obtain ⟨-, k3, -⟩ := K3.out.to HRw.out
            go_wp2_with (at_builtin; go_loud (refine wpList_app W.heap.size rtSt rfl (.tmp 35) (.tmp 40) rfl _ m _ rfl HROW.out ⟨w1.heap.size, 0, none⟩ 1 1 [.int .i64 n1, .bool d1] rfl rfl (by simpa using HNN.out) (onesS [(n1, d1)]) (by unfold maxLen; omega) (by omega) (by simp; omega) ?_; intro v' w7 hown' hgrow _ hwhere; obtain ⟨va', vc', rfl⟩ := ownsRow_sl hown'; have HO7 := Lib.hid hown'; have HG7 := Lib.hid hgrow; clear hown' hgrow hwhere k1 k2 k3))
            have HRn : Hid (Below W.heap.size W w7) := Lib.hid (HRw.out.trans (((Below.refl _ _).alloc hsw _).grown HG7.out (by simp; omega) (fun k e => (hlo.out k e).1)))
            go_roundw
            case rel => exact ⟨k + 1, va', vc', true, out ++ [(n1, d1)], by rw [show (out ++ [(n1, d1)]).length = m + 1 by rw [List.length_append, HM.out]; rfl], rfl, by go_num, by omega, Lib.hid HPN.out, Lib.hid (by rw [show (out ++ [(n1, d1)]).length = m + 1 by rw [List.length_append, HM.out]; rfl, scells_snoc]; exact HO7.out), HRn⟩
            case measure => simp [intOf]; omega
    · obtain rfl : n = k := by omega
      have hf := HFN.out dn out HP.out
      have HOw := Lib.hid HO.out
      have HRw := Lib.hid HR0.out
      cases dn with
      | true =>
        rw [if_pos rfl] at hf
        obtain ⟨a', cap', e, hcp, hrd, hfr⟩ := Reads.of_row (f := osts out) HOw.out (fun i hi => scells_get out i (by rw [HM.out]; exact hi))
        cases e
        go_wp2_with fail
        go_ret
        refine ⟨va, vc, ?_, ?_, ?_, bThen HB.out HRw.out⟩
        · rw [hf, HM.out]; rfl
        · rw [hf, HM.out]; exact hcp
        · rw [hf, HM.out]; exact hrd
      | false =>
        rw [if_neg (by decide)] at hf
        have HROW := Lib.hid (HOw.out.alloc (.cells #[.int .i64 s1, .bool s2] 46))
        have HNN := Lib.hid (Blk.new wr #[.int .i64 s1, .bool s2] 46).news
        have hlo := Lib.hid HOw.out.lt
        have hsw : W.heap.size ≤ wr.heap.size := HRw.out.size
        have hll : (out ++ [(s1, s2)]).length = m + 1 := by rw [List.length_append, HM.out]; rfl
        have HLL := Lib.hid hll
        clear hll
        go_wp2_with (at_builtin; go_loud (refine wpList_app W.heap.size rtSt rfl (.tmp 44) (.tmp 46) rfl _ m _ rfl HROW.out ⟨wr.heap.size, 0, none⟩ 1 1 [.int .i64 s1, .bool s2] rfl rfl (by simpa using HNN.out) (onesS [(s1, s2)]) (by unfold maxLen; omega) (by omega) (by simp; omega) ?_; intro v' w7 hown' hgrow _ hwhere; obtain ⟨va', vc', rfl⟩ := ownsRow_sl hown'; have HO7 := Lib.hid hown'; have HG7 := Lib.hid hgrow; clear hown' hgrow hwhere k3))
        have HRn : Hid (Below W.heap.size W w7) := Lib.hid (HRw.out.trans (((Below.refl _ _).alloc hsw _).grown HG7.out (by simp; omega) (fun k e => (hlo.out k e).1)))
        have hrow := HO7.out
        have hsc : scells out ++ [.int .i64 s1, .bool s2] = scells (out ++ [(s1, s2)]) := (scells_snoc out (s1, s2)).symm
        rw [hsc] at hrow
        obtain ⟨a', cap', e, hcp, hrd, hfr⟩ := Reads.of_row (f := osts (out ++ [(s1, s2)])) hrow (fun i hi => scells_get _ i (by rw [HLL.out]; exact hi))
        cases e
        go_ret
        refine ⟨va', vc', ?_, ?_, ?_, bThen HB.out HRn.out⟩
        · rw [hf, HLL.out]; rfl
        · rw [hf, HLL.out]; exact hcp
        · rw [hf, HLL.out]; exact hrd

end Go.Proofs.YtjfedpblkejmkaaGreat

/-
  The reference: After.
-/
namespace Go.Proofs.YtjfedpblkejmkaaGreat
open Go.RowKit
attribute [local go_sem] Oper.semAt_some

/-- One demand after one state. -/
def aftF (p : Plt) (s : OSt) (o : List OSt) (n : Int) : List OSt := match nxtA p s n with | none => o | some t => putS o t
def aftG (p : Plt) (r : Int × Int) (o : List OSt) (s : OSt) : List OSt := (rngL r).foldl (aftF p s) o
theorem putS_len (s : OSt) : ∀ l : List OSt, (putS l s).length ≤ l.length + 1
  | [] => by simp [putS]
  | x :: l => by
    rw [putS_cons]
    split
    · simp
    · split
      · simp
      · have := putS_len s l
        simp only [List.length_cons]
        omega
theorem aftF_len (p : Plt) (s : OSt) (o : List OSt) (n : Int) : (aftF p s o n).length ≤ o.length + 1 := by
  unfold aftF
  split
  · omega
  · exact putS_len _ _
theorem rngL_drop {r : Int × Int} {j : Nat} (h : r.1 + (j : Int) ≤ r.2) : (rngL r).drop j = (r.1 + (j : Int)) :: (rngL r).drop (j + 1) := by
  have hl : j < (rngL r).length := by unfold rngL; rw [List.length_map, List.length_range]; omega
  rw [List.drop_eq_getElem_cons hl]
  congr 1
  simp [rngL]
theorem rngL_end {r : Int × Int} {j : Nat} (h : r.2 < r.1 + (j : Int)) : (rngL r).drop j = [] := by
  refine List.drop_eq_nil_of_le ?_
  unfold rngL
  rw [List.length_map, List.length_range]
  omega
def nnB (p : Plt) (s : OSt) (n : Int) : Bool := (nxtA p s n).isNone
/-- Within a state: the demands so far. -/
structure AfI (p : Plt) (r : Int × Int) (l : List OSt) (i j : Nat) (o : List OSt) (wh : Bool) : Prop where
  eq : aftR p r l = (l.drop (i + 1)).foldl (aftG p r) (((rngL r).drop j).foldl (aftF p (sg l i)) o)
  em : EmpB p r l = (!wh || ((rngL r).drop j).any (nnB p (sg l i)) || EmpB p r (l.drop (i + 1)))
  srt : SrtS o
  len : o.length ≤ 51 * i + j
/-- Between states. -/
structure AfO (p : Plt) (r : Int × Int) (l : List OSt) (i : Nat) (o : List OSt) (wh : Bool) : Prop where
  eq : aftR p r l = (l.drop i).foldl (aftG p r) o
  em : EmpB p r l = (!wh || EmpB p r (l.drop i))
  srt : SrtS o
  len : o.length ≤ 51 * i
theorem AfO.start (p : Plt) (r : Int × Int) (l : List OSt) : AfO p r l 0 [] true := ⟨rfl, by simp, List.Pairwise.nil, by simp⟩
theorem AfO.into {p : Plt} {r : Int × Int} {l : List OSt} {i : Nat} {o : List OSt} {wh : Bool} (h : AfO p r l i o wh) (hi : i < l.length) : AfI p r l i 0 o wh := by
  refine ⟨?_, ?_, h.srt, by have := h.len; omega⟩
  · rw [h.eq, drop_sg hi, List.foldl_cons]
    rfl
  · rw [h.em, drop_sg hi]
    unfold EmpB
    rw [List.any_cons, Bool.or_assoc]
    rfl
theorem AfI.out {p : Plt} {r : Int × Int} {l : List OSt} {i j : Nat} {o : List OSt} {wh : Bool} (h : AfI p r l i j o wh) (hj : r.2 < r.1 + (j : Int)) (hj2 : j ≤ 51) : AfO p r l (i + 1) o wh := by
  have e := rngL_end hj
  refine ⟨?_, ?_, h.srt, by have := h.len; omega⟩
  · rw [h.eq, e]; rfl
  · rw [h.em, e]; simp
theorem AfI.none {p : Plt} {r : Int × Int} {l : List OSt} {i j : Nat} {o : List OSt} {wh : Bool} (h : AfI p r l i j o wh) (hj : r.1 + (j : Int) ≤ r.2) (hn : nxtA p (sg l i) (r.1 + (j : Int)) = none) : AfI p r l i (j + 1) o false := by
  refine ⟨?_, ?_, h.srt, by have := h.len; omega⟩
  · rw [h.eq, rngL_drop hj, List.foldl_cons]
    unfold aftF
    rw [hn]
  · rw [h.em, rngL_drop hj, List.any_cons]
    unfold nnB
    rw [hn]
    simp
theorem AfI.some {p : Plt} {r : Int × Int} {l : List OSt} {i j : Nat} {o : List OSt} {wh : Bool} {t : OSt} (h : AfI p r l i j o wh) (hj : r.1 + (j : Int) ≤ r.2) (hn : nxtA p (sg l i) (r.1 + (j : Int)) = some t) : AfI p r l i (j + 1) (putS o t) wh := by
  refine ⟨?_, ?_, srt_putS h.srt, by have := h.len; have := putS_len t o; omega⟩
  · rw [h.eq, rngL_drop hj, List.foldl_cons]
    have : aftF p (sg l i) o (r.1 + (j : Int)) = putS o t := by unfold aftF; rw [hn]
    rw [this]
  · rw [h.em, rngL_drop hj, List.any_cons]
    have : nnB p (sg l i) (r.1 + (j : Int)) = false := by unfold nnB; rw [hn]; rfl
    rw [this, Bool.false_or]
theorem AfO.fin {p : Plt} {r : Int × Int} {l : List OSt} {o : List OSt} {wh : Bool} (h : AfO p r l l.length o wh) : aftR p r l = o ∧ (!EmpB p r l) = wh := by
  refine ⟨?_, ?_⟩
  · rw [h.eq, List.drop_length]; rfl
  · rw [h.em, List.drop_length]
    unfold EmpB
    simp

def AftPost (p : Plt) (r : Int × Int) (l : List OSt) (w : World) (e : Ending) (w' : World) : Prop :=
  ∃ a' c', e = .returned (.tuple #[.slice a' (aftR p r l).length c', .bool (!EmpB p r l)]) ∧ (aftR p r l).length ≤ c' ∧ Reads w' a' ((aftR p r l).length * 2) (osts (aftR p r l)) ∧ Below w.heap.size w w'

set_option maxHeartbeats 12800000 in
set_option maxRecDepth 100000 in
theorem rAfter_any (p : Plt) (r : Int × Int) (l : List OSt) (a al : Option Addr) (cap cl : Nat) (w : World) (hp : PltOk p) (hrg : 0 ≤ r.1 ∧ r.2 ≤ 50) (hst : ∀ k, k < l.length → StOk p (sg l k)) (hlen : l.length ≤ 1000) (hr : Reads w a (p.pts.length * 2) (fracs p.pts)) (hrl : Reads w al (l.length * 2) (osts l)) :
    Calls Tryz.prog 149 #[.agg (plC p a cap), .slice al l.length cl, .agg #[.int .i64 r.1, .int .i64 r.2]] w (AftPost p r l w) := by
  have HNX := Lib.hid (fun W k (hk : k < l.length) d (hd : 0 ≤ d ∧ d ≤ 50) (hb : Below w.heap.size w W) => rnNext_any p (sg l k) d a cap W hp (hst k hk) hd (hr.to hb))
  have HA := Lib.hid hrl
  have HIN := Lib.hid (fun i o wh (h : AfO p r l i o wh) hi => h.into hi)
  have HOUT := Lib.hid (fun i j o wh (h : AfI p r l i j o wh) hj hj2 => h.out hj hj2)
  have HNO := Lib.hid (fun i j o wh (h : AfI p r l i j o wh) hj hn => h.none hj hn)
  have HSO := Lib.hid (fun i j o wh t (h : AfI p r l i j o wh) hj hn => h.some (t := t) hj hn)
  have HFN := Lib.hid (fun o wh (h : AfO p r l l.length o wh) => h.fin)
  have HST := Lib.hid (AfO.start p r l)
  obtain ⟨n, hn⟩ : ∃ n, l.length = n := ⟨_, rfl⟩
  rw [hn] at HNX HA HIN HFN hlen ⊢
  obtain ⟨r1, r2⟩ := r
  obtain ⟨hr0, hr1⟩ := hrg
  dsimp only at hr0 hr1 HOUT HNO HSO ⊢
  unfold plC at HNX ⊢
  clear hr hrl hn hst
  go_enter Tryz.func149, Tryz.ntmps149
  go_wp2_with fail
  obtain ⟨W, hW⟩ : ∃ W, (w.alloc (.cells #[.slice a p.pts.length cap, .int .i64 p.pump, .int .i64 p.on, .int .i64 p.off] 44)).alloc (.cells #[.int .i64 r1, .int .i64 r2] 25) = W := ⟨_, rfl⟩
  rw [hW]
  have K3 : Hid (Blk W w.heap.size #[.slice a p.pts.length cap, .int .i64 p.pump, .int .i64 p.on, .int .i64 p.off]) := by subst hW; exact Lib.hid ((Blk.new _ _ _).alloc _)
  have K5 : Hid (Blk W (w.heap.size + 1) #[.int .i64 r1, .int .i64 r2]) := by subst hW; exact Lib.hid (Blk.newAt _ _ _ (by simp))
  have HB : Hid (Below w.heap.size w W) := by subst hW; exact Lib.hid (bAlloc (bAlloc (bSelf w) _) _)
  replace HA := Lib.hid (HA.out.to HB.out)
  clear hW
  go_loopw [8, 9, 10, 11, 12, 13] (fun s8 s9 s10 _ _ _ wr => ∃ (i : Nat) (va : Option Addr) (vc : Nat) (wh : Bool) (o : List OSt), s8 = .slice va o.length vc ∧ s9 = .bool wh ∧ s10 = .int .i64 i ∧ i ≤ n ∧ o.length ≤ vc ∧ Hid (AfO p (r1, r2) l i o wh) ∧ Hid (Reads wr va (o.length * 2) (osts o)) ∧ Hid (Below W.heap.size W wr)) (fun _ _ s10 _ _ _ _ => n - (intOf s10).toNat)
  case atStart => exact ⟨0, none, 0, true, [], rfl, rfl, rfl, Nat.zero_le _, Nat.zero_le _, HST, Lib.hid (.inl rfl), Lib.hid (bSelf W)⟩
  case round =>
    obtain ⟨i, va, vc, wh, o, rfl, rfl, rfl, hi, hvc, HP, HRo, HR0⟩ := hrel
    by_cases hlt : i < n
    · have HPI := Lib.hid (HIN.out i o wh HP.out hlt)
      obtain ⟨wv, hwv⟩ : ∃ wv, wv = wr := ⟨_, rfl⟩
      subst hwv
      obtain ⟨ba, oa, rfl, hba, hca⟩ := HA.out.at (k := i * 2) (by omega)
      obtain ⟨⟨n1, d1⟩, hz⟩ : ∃ q, sg l i = q := ⟨_, rfl⟩
      have h1 : Hid (W.cell? ⟨ba, oa + i * 2, none⟩ = some (.int .i64 n1)) := Lib.hid (by rw [hca _ (by omega), osts0, hz])
      have h2 : Hid (W.cell? ⟨ba, oa + i * 2 + 1, none⟩ = some (.bool d1)) := Lib.hid (by rw [Nat.add_assoc, hca _ (by omega), osts1, hz])
      have HNK := Lib.hid (fun W d hd hb => HNX.out W i hlt d hd hb)
      have HOK := Lib.hid (fun j o wh h hj hj2 => HOUT.out i j o wh h hj hj2)
      have HNOK := Lib.hid (fun j o wh h hj hn => HNO.out i j o wh h hj hn)
      have HSOK := Lib.hid (fun j o wh t h hj hn => HSO.out i j o wh t h hj hn)
      rw [hz] at HNK HNOK HSOK
      dsimp only at HNK
      clear hca hz HNX HOUT HNO HSO HFN HST HIN HP
      obtain ⟨-, k5, -⟩ := K5.out.to HR0.out
      go_wp2_with fail
      clear k5
      go_loopw [8, 9, 11, 12, 13] (fun s8 s9 s11 _ _ wr => ∃ (j : Nat) (va : Option Addr) (vc : Nat) (wh : Bool) (o : List OSt), s8 = .slice va o.length vc ∧ s9 = .bool wh ∧ s11 = .int .i64 (r1 + (j : Int)) ∧ j ≤ 51 ∧ o.length ≤ vc ∧ Hid (AfI p (r1, r2) l i j o wh) ∧ Hid (Reads wr va (o.length * 2) (osts o)) ∧ Hid (Below W.heap.size W wr)) (fun _ _ s11 _ _ _ => (r2 + 1 - intOf s11).toNat)
      case atStart => exact ⟨0, va, vc, wh, o, rfl, rfl, by go_num, Nat.zero_le _, hvc, HPI, HRo, HR0⟩
      case round =>
        clear HPI HRo HR0 hvc
        obtain ⟨j, va, vc, wh, o, rfl, rfl, rfl, hj, hvc, HP, HRo, HR0⟩ := hrel
        obtain ⟨-, k5, -⟩ := K5.out.to HR0.out
        by_cases hle : r1 + (j : Int) ≤ r2
        · obtain ⟨d, hd⟩ : ∃ d, r1 + (j : Int) = d := ⟨_, rfl⟩
          have hd0 : 0 ≤ d := by omega
          have hd1 : d ≤ 50 := by omega
          have HNN := Lib.hid (fun h => HNOK.out j o wh HP.out hle h)
          have HSS := Lib.hid (fun t h => HSOK.out j o wh t HP.out hle h)
          have HND := Lib.hid (fun W hb => HNK.out W d ⟨hd0, hd1⟩ hb)
          have HSR := Lib.hid HP.out.srt
          have HLN := Lib.hid HP.out.len
          have HDD : Hid (d + 1 = r1 + ((j + 1 : Nat) : Int)) := Lib.hid (by omega)
          have hdr : d ≤ r2 := by omega
          have hjn : j + 1 ≤ 51 := by omega
          rw [hd] at HNN HSS ⊢
          clear hd hle
          obtain ⟨nx, hnx⟩ : ∃ x, nxtA p (n1, d1) d = x := ⟨_, rfl⟩
          rw [hnx] at HND HNN HSS
          clear hnx HP HNOK HSOK HNK HOK
          obtain ⟨⟨t1, t2⟩, ht⟩ : ∃ x, nx.getD (0, false) = x := ⟨_, rfl⟩
          have HT := Lib.hid ht
          rw [ht] at HND
          dsimp only at HND
          clear ht
          obtain ⟨wu, hwu⟩ : ∃ wu, wu = wr := ⟨_, rfl⟩
          subst hwu
          go_wp2_with fail
          clear k5
          go_cut [12, 13] from 28 to 37 (fun s12 s13 wc => ∃ B, s12 = .pointer (some ⟨B, 0, none⟩) ∧ s13 = .bool nx.isSome ∧ Hid (Blk wc B #[.int .i64 t1, .bool t2]) ∧ Hid (Below wu.heap.size wu wc))
          case first =>
            have K3u := Lib.hid (K3.out.to HR0.out)
            have hbu : ba < wu.heap.size := Nat.lt_of_lt_of_le hba HR0.out.size
            have C0 : Hid (wu.cell? ⟨ba, oa + i * 2, none⟩ = some (.int .i64 n1)) := Lib.hid ((HR0.out.cell (p := ⟨ba, oa + i * 2, none⟩) hba).trans h1.out)
            have C1 : Hid (wu.cell? ⟨ba, oa + i * 2 + 1, none⟩ = some (.bool d1)) := Lib.hid ((HR0.out.cell (p := ⟨ba, oa + i * 2 + 1, none⟩) hba).trans h2.out)
            have HBu := Lib.hid (bThen HB.out HR0.out)
            refine wp_region_tree (by kernel_rfl) (fun wd hwd => ?_)
            have T := Lib.hid hwd
            clear hwd
            refine WT_yes 0 rfl (by kernel_rfl) (fun _ _ _ _ _ h => h) (by rfl) ?_; apply Exists.intro; refine ⟨fun w1 hb1 => ?_, ?_⟩; (focus (((obtain ⟨-, k3, -⟩ := K3u.out.to (T.out.trans hb1)); have hb1 := Lib.hid hb1; go_simp); (try (go_bits; try go_simp)); (try (rw [if_pos (by omega)]; try go_simp)); (first | done | (fail) | (with_reducible rfl) | exact rfl)))
            simp only [Act.put, List.setIfInBounds_toArray, List.set_cons_zero, List.set_cons_succ]
            refine WT_yes 1 rfl (by kernel_rfl) (fun _ _ _ _ _ h => h) (by rfl) ?_; apply Exists.intro; refine ⟨fun w1 hb1 => ?_, ?_⟩; (focus ((skip; have hb1 := Lib.hid hb1; go_simp); (try (go_bits; try go_simp)); (try (rw [if_pos (by omega)]; try go_simp)); (first | done | (fail) | (with_reducible rfl) | exact rfl)))
            simp only [Act.put, List.setIfInBounds_toArray, List.set_cons_zero, List.set_cons_succ]
            refine WT_yes 2 rfl (by kernel_rfl) (fun _ _ _ _ _ h => h) (by rfl) ?_; apply Exists.intro; refine ⟨fun w1 hb1 => ?_, ?_⟩; (focus ((skip; have hb1 := Lib.hid hb1; go_simp); (try (go_bits; try go_simp)); (try (rw [if_pos (by omega)]; try go_simp)); (first | done | (fail) | (with_reducible rfl) | exact rfl)))
            simp only [Act.put, List.setIfInBounds_toArray, List.set_cons_zero, List.set_cons_succ]
            refine WT_yes 3 rfl (by kernel_rfl) (fun _ _ _ _ _ h => h) (by rfl) ?_; apply Exists.intro; refine ⟨fun w1 hb1 => ?_, ?_⟩; (focus ((skip; have hb1 := Lib.hid hb1; go_simp); (try (go_bits; try go_simp)); (try (rw [if_pos (by omega)]; try go_simp)); (first | done | (fail) | (with_reducible rfl) | exact rfl)))
            simp only [Act.put, List.setIfInBounds_toArray, List.set_cons_zero, List.set_cons_succ]
            refine WT_yes 4 rfl (by kernel_rfl) (fun _ _ _ _ _ h => h) (by rfl) ?_; apply Exists.intro; refine ⟨fun w1 hb1 => ?_, ?_⟩; (focus (((have c0 := ((T.out.trans hb1).cell (p := ⟨ba, oa + i * 2, none⟩) hbu).trans C0.out; have c1 := ((T.out.trans hb1).cell (p := ⟨ba, oa + i * 2 + 1, none⟩) hbu).trans C1.out); have hb1 := Lib.hid hb1; go_simp); (try (go_bits; try go_simp)); (try (rw [if_pos (by omega)]; try go_simp)); (first | done | (fail) | (with_reducible rfl) | exact rfl)))
            simp only [Act.put, List.setIfInBounds_toArray, List.set_cons_zero, List.set_cons_succ]
            refine WT_yes 5 rfl (by kernel_rfl) (fun _ _ _ _ _ h => h) (by rfl) ?_; apply Exists.intro; refine ⟨fun w1 hb1 => ?_, ?_⟩; (focus ((skip; have hb1 := Lib.hid hb1; go_simp); (try (go_bits; try go_simp)); (try (rw [if_pos (by omega)]; try go_simp)); (first | done | (fail) | (with_reducible rfl) | exact rfl)))
            simp only [Act.put, List.setIfInBounds_toArray, List.set_cons_zero, List.set_cons_succ]
            refine WT_two 6 10 rfl rfl (by kernel_rfl) ?_ ?_
            · unfold stepT
              go_wp2_with fail
              refine (HND.out _ (bThen HBu.out T.out)).mono ?_
              rintro e u1 ⟨rfl, hb⟩
              have hbd := Lib.hid (hb.mono T.out.size)
              replace T := Lib.hid (bThen T.out hb)
              clear hb
              go_wp2_with fail
              refine ⟨hbd.out, ?_⟩
              clear hbd
              refine WT_yes 7 rfl (by kernel_rfl) (fun _ _ _ _ _ h => h) (by rfl) ?_; apply Exists.intro; refine ⟨fun w1 hb1 => ?_, ?_⟩; (focus ((skip; have hb1 := Lib.hid hb1; go_simp); (try (go_bits; try go_simp)); (try (rw [if_pos (by omega)]; try go_simp)); (first | done | (fail) | (with_reducible rfl) | exact rfl)))
              simp only [Act.put, List.setIfInBounds_toArray, List.set_cons_zero, List.set_cons_succ]
              refine WT_yes 8 rfl (by kernel_rfl) (fun _ _ _ _ _ h => h) (by rfl) ?_; apply Exists.intro; refine ⟨fun w1 hb1 => ?_, ?_⟩; (focus ((skip; have hb1 := Lib.hid hb1; go_simp); (try (go_bits; try go_simp)); (try (rw [if_pos (by omega)]; try go_simp)); (first | done | (fail) | (with_reducible rfl) | exact rfl)))
              simp only [Act.put, List.setIfInBounds_toArray, List.set_cons_zero, List.set_cons_succ]
              refine WT_yes 9 rfl (by kernel_rfl) (fun _ _ _ _ _ h => h) (by rfl) ?_; apply Exists.intro; refine ⟨fun w1 hb1 => ?_, ?_⟩; (focus ((skip; have hb1 := Lib.hid hb1; go_simp); (try (go_bits; try go_simp)); (try (rw [if_pos (by omega)]; try go_simp)); (first | done | (fail) | (with_reducible rfl) | exact rfl)))
              simp only [Act.put, List.setIfInBounds_toArray, List.set_cons_zero, List.set_cons_succ]
              refine WT_one 10 rfl (by kernel_rfl) ?_
              unfold stepT
              go_wp2_with fail
              obtain ⟨u2, hwA⟩ : ∃ wA, u1.alloc (.cells #[.int .i64 0, .bool false] 46) = wA := ⟨_, rfl⟩
              rw [hwA]
              have hb : Below u1.heap.size u1 u2 := by subst hwA; exact bAlloc (bSelf _) _
              have KBN : Hid (Blk u2 u1.heap.size #[.int .i64 0, .bool false]) := by subst hwA; exact Blk.new _ _ _
              clear hwA
              have BNN : Hid (wu.heap.size ≤ u1.heap.size) := Lib.hid T.out.size
              obtain ⟨BN, hBN⟩ : ∃ N, u1.heap.size = N := ⟨_, rfl⟩
              have hbd := Lib.hid (hb.mono T.out.size)
              replace T := Lib.hid (bThen T.out hb)
              clear hb
              rw [hBN] at KBN BNN  ⊢
              clear hBN
              refine ⟨hbd.out, ?_⟩
              clear hbd
              refine WT_one 11 rfl (by kernel_rfl) ?_
              unfold stepT
              obtain ⟨-, kx, fx⟩ := KBN.out
              go_wp2_with fail
              clear kx fx
              obtain ⟨u3, hu⟩ : ∃ u, (u2.setCell ⟨BN, 0, none⟩ (.int .i64 t1)).setCell ⟨BN, 1, none⟩ (.bool t2) = u := ⟨_, rfl⟩
              have hb : Below wu.heap.size u2 u3 := by rw [← hu]; exact ((Below.refl _ _).setCell (p := ⟨BN, 0, none⟩) BNN.out _).setCell (p := ⟨BN, 1, none⟩) BNN.out _
              replace KBN := Lib.hid ((KBN.out.set 0 (.int .i64 t1)).set 1 (.bool t2))
              rw [hu] at KBN ⊢
              clear hu
              replace T := Lib.hid (T.out.trans hb)
              refine ⟨hb, ?_⟩
              clear hb
              refine WT_yes 12 rfl (by kernel_rfl) (fun _ _ _ _ _ h => h) (by rfl) ?_; apply Exists.intro; refine ⟨fun w1 hb1 => ?_, ?_⟩; (focus ((skip; have hb1 := Lib.hid hb1; go_simp); (try (go_bits; try go_simp)); (try (rw [if_pos (by omega)]; try go_simp)); (first | done | (fail) | (with_reducible rfl) | exact rfl)))
              simp only [Act.put, List.setIfInBounds_toArray, List.set_cons_zero, List.set_cons_succ]
              refine WT_done (by kernel_rfl) ?_
              go_wp2_with fail
              go_meet
              case rel => exact ⟨BN, rfl, rfl, KBN, T⟩
            · unfold stepT
              go_wp2_with fail
              obtain ⟨u1, hwA⟩ : ∃ wA, wd.alloc (.cells #[.int .i64 0, .bool false] 46) = wA := ⟨_, rfl⟩
              rw [hwA]
              have hb : Below wd.heap.size wd u1 := by subst hwA; exact bAlloc (bSelf _) _
              have KBN : Hid (Blk u1 wd.heap.size #[.int .i64 0, .bool false]) := by subst hwA; exact Blk.new _ _ _
              clear hwA
              have BNN : Hid (wu.heap.size ≤ wd.heap.size) := Lib.hid T.out.size
              obtain ⟨BN, hBN⟩ : ∃ N, wd.heap.size = N := ⟨_, rfl⟩
              have hbd := Lib.hid (hb.mono T.out.size)
              replace T := Lib.hid (bThen T.out hb)
              clear hb
              rw [hBN] at KBN BNN  ⊢
              clear hBN
              refine ⟨hbd.out, ?_⟩
              clear hbd
              refine WT_one 6 rfl (by kernel_rfl) ?_
              unfold stepT
              go_wp2_with fail
              refine (HND.out _ (bThen HBu.out T.out)).mono ?_
              rintro e u2 ⟨rfl, hb⟩
              replace KBN := Lib.hid (KBN.out.to hb)
              have hbd := Lib.hid (hb.mono T.out.size)
              replace T := Lib.hid (bThen T.out hb)
              clear hb
              go_wp2_with fail
              refine ⟨hbd.out, ?_⟩
              clear hbd
              refine WT_yes 7 rfl (by kernel_rfl) (fun _ _ _ _ _ h => h) (by rfl) ?_; apply Exists.intro; refine ⟨fun w1 hb1 => ?_, ?_⟩; (focus ((skip; have hb1 := Lib.hid hb1; go_simp); (try (go_bits; try go_simp)); (try (rw [if_pos (by omega)]; try go_simp)); (first | done | (fail) | (with_reducible rfl) | exact rfl)))
              simp only [Act.put, List.setIfInBounds_toArray, List.set_cons_zero, List.set_cons_succ]
              refine WT_yes 8 rfl (by kernel_rfl) (fun _ _ _ _ _ h => h) (by rfl) ?_; apply Exists.intro; refine ⟨fun w1 hb1 => ?_, ?_⟩; (focus ((skip; have hb1 := Lib.hid hb1; go_simp); (try (go_bits; try go_simp)); (try (rw [if_pos (by omega)]; try go_simp)); (first | done | (fail) | (with_reducible rfl) | exact rfl)))
              simp only [Act.put, List.setIfInBounds_toArray, List.set_cons_zero, List.set_cons_succ]
              refine WT_yes 9 rfl (by kernel_rfl) (fun _ _ _ _ _ h => h) (by rfl) ?_; apply Exists.intro; refine ⟨fun w1 hb1 => ?_, ?_⟩; (focus ((skip; have hb1 := Lib.hid hb1; go_simp); (try (go_bits; try go_simp)); (try (rw [if_pos (by omega)]; try go_simp)); (first | done | (fail) | (with_reducible rfl) | exact rfl)))
              simp only [Act.put, List.setIfInBounds_toArray, List.set_cons_zero, List.set_cons_succ]
              refine WT_one 11 rfl (by kernel_rfl) ?_
              unfold stepT
              obtain ⟨-, kx, fx⟩ := KBN.out
              go_wp2_with fail
              clear kx fx
              obtain ⟨u3, hu⟩ : ∃ u, (u2.setCell ⟨BN, 0, none⟩ (.int .i64 t1)).setCell ⟨BN, 1, none⟩ (.bool t2) = u := ⟨_, rfl⟩
              have hb : Below wu.heap.size u2 u3 := by rw [← hu]; exact ((Below.refl _ _).setCell (p := ⟨BN, 0, none⟩) BNN.out _).setCell (p := ⟨BN, 1, none⟩) BNN.out _
              replace KBN := Lib.hid ((KBN.out.set 0 (.int .i64 t1)).set 1 (.bool t2))
              rw [hu] at KBN ⊢
              clear hu
              replace T := Lib.hid (T.out.trans hb)
              refine ⟨hb, ?_⟩
              clear hb
              refine WT_yes 12 rfl (by kernel_rfl) (fun _ _ _ _ _ h => h) (by rfl) ?_; apply Exists.intro; refine ⟨fun w1 hb1 => ?_, ?_⟩; (focus ((skip; have hb1 := Lib.hid hb1; go_simp); (try (go_bits; try go_simp)); (try (rw [if_pos (by omega)]; try go_simp)); (first | done | (fail) | (with_reducible rfl) | exact rfl)))
              simp only [Act.put, List.setIfInBounds_toArray, List.set_cons_zero, List.set_cons_succ]
              refine WT_done (by kernel_rfl) ?_
              go_wp2_with fail
              go_meet
              case rel => exact ⟨BN, rfl, rfl, KBN, T⟩
          obtain ⟨wz, hwz⟩ : ∃ wo, wo = wc := ⟨_, rfl⟩
          subst hwz
          obtain ⟨B12, rfl, rfl, K12, hb⟩ := hcut
          replace hb := hb.out
          replace HRo := Lib.hid (HRo.out.to hb)
          replace HR0 := Lib.hid (HR0.out.trans (hb.mono HR0.out.size))
          clear hb HND
          cases nx with
          | none =>
            have HPN := Lib.hid (HNN.out rfl)
            clear HNN HSS
            go_wp2_with fail
            go_roundw
            case rel => exact ⟨j + 1, va, vc, false, o, rfl, rfl, by rw [← HDD.out], hjn, hvc, HPN, HRo, HR0⟩
            case measure => simp [intOf]; omega
          | some t =>
            have HPN := Lib.hid (HSS.out t rfl)
            have hte : t = (t1, t2) := HT.out
            subst hte
            have HPU := Lib.hid (fun W hR => rPut_any o (t1, t2) va vc W (by have := HLN.out; omega) hvc HSR.out hR)
            unfold PutPost at HPU
            dsimp only at HPU
            clear HNN HSS
            obtain ⟨-, k12, -⟩ := K12.out
            go_wp2_with fail
            clear k12
            refine (HPU.out _ HRo.out).mono ?_
            rintro e w9 ⟨a', c', rfl, hc', hrd, hb⟩
            replace HR0 := Lib.hid (HR0.out.trans (hb.mono HR0.out.size))
            have HRn := Lib.hid hrd
            clear hb hrd HPU
            go_wp2_with fail
            go_roundw
            case rel => exact ⟨j + 1, a', c', wh, putS o (t1, t2), rfl, rfl, by rw [← HDD.out], hjn, hc', HPN, HRn, HR0⟩
            case measure => simp [intOf]; omega
        · have HPO := Lib.hid (HOK.out j o wh HP.out (by omega) hj)
          have hle2 : r2 < r1 + (j : Int) := by omega
          clear HP HNOK HSOK HNK HOK
          obtain ⟨d, hd⟩ : ∃ d, r1 + (j : Int) = d := ⟨_, rfl⟩
          rw [hd] at hle2 ⊢
          clear hd hle
          go_wp2_with fail
          go_roundw
          case rel => exact ⟨i + 1, va, vc, wh, o, rfl, rfl, by go_num, by omega, hvc, HPO, HRo, HR0⟩
          case measure => simp [intOf]; omega
    · obtain rfl : n = i := by omega
      obtain ⟨e1, e2⟩ := HFN.out o wh HP.out
      go_wp2_with fail
      go_ret2
      refine ⟨va, vc, ?_, ?_, ?_, bThen HB.out HR0.out⟩
      · rw [e1, e2]; rfl
      · rw [e1]; exact hvc
      · rw [e1]; exact HRo.out

end Go.Proofs.YtjfedpblkejmkaaGreat

/-
  The reference: Judged.
-/
namespace Go.Proofs.YtjfedpblkejmkaaGreat
open Go.RowKit
attribute [local go_sem] Oper.semAt_some

theorem emp_one {p : Plt} {r : Int × Int} {s : OSt} (h : r.1 ≤ r.2) : EmpB p r [s] = (nxtA p s r.2).isNone := by
  unfold EmpB
  rw [List.any_cons, List.any_nil, Bool.or_false, Bool.eq_iff_iff, List.any_eq_true]
  constructor
  · rintro ⟨n, hn, e⟩
    have h1 := rngL_mem.1 hn
    cases hx : nxtA p s r.2 with
    | none => rfl
    | some t =>
      have := nxtA_le (p := p) (s := s) h1.2 (by rw [hx]; simp)
      exact absurd (by simpa using e) this
  · intro e
    exact ⟨r.2, rngL_mem.2 ⟨h, Int.le_refl _⟩, e⟩
theorem all_one {p : Plt} {r : Int × Int} {s : OSt} {S : OSt → Bool} (h : (nxtA p s r.2).isNone = false) : ((rngL r).all fun n => S ((nxtA p s n).getD (0, false))) = (aftR p r [s]).all S := by
  rw [Bool.eq_iff_iff, List.all_eq_true, List.all_eq_true]
  have hsome : ∀ n ∈ rngL r, nxtA p s n ≠ none := fun n hn => nxtA_le (rngL_mem.1 hn).2 (fun e => by rw [e] at h; cases h)
  constructor
  · intro hh t ht
    obtain ⟨x, hx, n, hn, e⟩ := mem_aftR.1 ht
    have : x = s := by simpa using hx
    subst this
    have := hh n hn
    rw [e] at this
    exact this
  · intro hh n hn
    cases e : nxtA p s n with
    | none => exact absurd e (hsome n hn)
    | some t => exact hh t (mem_aftR.2 ⟨s, by simp, n, hn, e⟩)
theorem jdg_law {p : Plt} {r : Int × Int} {lim : Int} {s : OSt} {S : OSt → Bool} (h : r.1 ≤ r.2) :
    jdg p r lim s S = if (lessQ (prQ p.pts s.1) (lim, 1) || EmpB p r [s]) = true then 22 else if (aftR p r [s]).all S = true then 0 else 21 := by
  unfold jdg
  rw [emp_one h]
  cases h1 : lessQ (prQ p.pts s.1) (lim, 1)
  · cases h2 : (nxtA p s r.2).isNone
    · rw [all_one h2]; rfl
    · rfl
  · rfl
theorem fold_len (p : Plt) (s : OSt) : ∀ (ns : List Int) (o : List OSt), (ns.foldl (aftF p s) o).length ≤ o.length + ns.length
  | [], o => by simp
  | n :: ns, o => by
    rw [List.foldl_cons]
    have h1 := fold_len p s ns (aftF p s o n)
    have h2 := aftF_len p s o n
    simp only [List.length_cons]
    omega
theorem one_len {p : Plt} {r : Int × Int} {s : OSt} (h0 : 0 ≤ r.1) (h1 : r.2 ≤ 50) : (aftR p r [s]).length ≤ 51 := by
  have h2 := fold_len p s (rngL r) []
  have h3 : (rngL r).length ≤ 51 := by unfold rngL; rw [List.length_map, List.length_range]; omega
  have h4 : aftR p r [s] = (rngL r).foldl (aftF p s) [] := rfl
  rw [h4]
  simp only [List.length_nil] at h2
  omega
theorem one_reads {W : World} {b : Nat} {s : OSt} (h : Blk W b #[.int .i64 s.1, .bool s.2]) : Reads W (some ⟨b, 0, none⟩) (1 * 2) (osts [s]) := by
  refine .inr ⟨b, 0, rfl, h.1, fun i hi => ?_⟩
  rw [h.2.1 (0 + i)]
  have hc : i = 0 ∨ i = 1 := by omega
  rcases hc with rfl | rfl <;> rfl
theorem all_at {l : List OSt} {S : OSt → Bool} : l.all S = true ↔ ∀ k, k < l.length → S (sg l k) = true := by
  rw [List.all_eq_true]
  constructor
  · exact fun h k hk => h _ (by unfold sg; rw [List.getD_eq_getElem?_getD, List.getElem?_eq_getElem hk]; exact List.getElem_mem hk)
  · intro h x hx
    obtain ⟨k, hk, e⟩ := List.getElem_of_mem hx
    have := h k hk
    unfold sg at this
    rw [List.getD_eq_getElem?_getD, List.getElem?_eq_getElem hk] at this
    rw [← e]; exact this

set_option maxHeartbeats 6400000 in
set_option maxRecDepth 100000 in
theorem rJudged_any (p : Plt) (r : Int × Int) (lim : Int) (s : OSt) (Y : List OSt) (a aY : Option Addr) (cap cY : Nat) (w : World) (hp : PltOk p) (hrg : 0 ≤ r.1 ∧ r.2 ≤ 50 ∧ r.1 ≤ r.2) (hlim : 0 ≤ lim ∧ lim ≤ 1000) (hst : StOk p s) (hY : Y.length ≤ 100000) (hr : Reads w a (p.pts.length * 2) (fracs p.pts)) (hrY : Reads w aY (Y.length * 2) (osts Y)) :
    Calls Tryz.prog 131 #[.agg (plC p a cap), .agg #[.int .i64 r.1, .int .i64 r.2], .int .i64 lim, .agg #[.int .i64 s.1, .bool s.2], .slice aY Y.length cY] w fun e w' => e = .returned (.int .i64 (jdg p r lim s (inS Y))) ∧ Below w.heap.size w w' := by
  rw [jdg_law hrg.2.2]
  have HAF := Lib.hid (fun W al cl (hb : Below w.heap.size w W) h => rAfter_any p r [s] a al cap cl W hp ⟨hrg.1, hrg.2.1⟩ (fun k hk => by
    have : k = 0 := by simp at hk; exact hk
    subst this; exact hst) (by simp) (hr.to hb) h)
  have HBL := Lib.hid (fun W (hb : Below w.heap.size w W) => rBelow_any p s lim a cap W hp.pts hst (by omega) (hr.to hb))
  have HHA := Lib.hid (fun W t (hb : Below w.heap.size w W) => rHas_any Y t aY cY W hY (hrY.to hb))
  have hM51 := one_len (p := p) (s := s) hrg.1 hrg.2.1
  have HALL := Lib.hid (all_at (l := aftR p r [s]) (S := inS Y))
  obtain ⟨lb, hlb⟩ : ∃ b, lessQ (prQ p.pts s.1) (lim, 1) = b := ⟨_, rfl⟩
  obtain ⟨eb, heb⟩ : ∃ b, EmpB p r [s] = b := ⟨_, rfl⟩
  obtain ⟨M, hM⟩ : ∃ M, aftR p r [s] = M := ⟨_, rfl⟩
  obtain ⟨ab, hab⟩ : ∃ b, M.all (inS Y) = b := ⟨_, rfl⟩
  unfold AftPost at HAF
  rw [hM] at HALL hM51
  rw [hM, heb] at HAF
  rw [hlb] at HBL
  rw [hab] at HALL
  rw [hlb, heb, hM, hab]
  obtain ⟨rj, hrj⟩ : ∃ x, (if (lb || eb) = true then (22 : Int) else if ab = true then 0 else 21) = x := ⟨_, rfl⟩
  rw [hrj]
  have HRJ := Lib.hid hrj
  obtain ⟨nY, hnY⟩ : ∃ n, Y.length = n := ⟨_, rfl⟩
  rw [hnY] at HHA ⊢
  obtain ⟨s1, s2⟩ := s
  obtain ⟨r1, r2⟩ := r
  dsimp only at HAF HBL hrg ⊢
  have h10 : ([(s1, s2)] : List OSt).length = 1 := rfl
  rw [h10] at HAF
  unfold plC at HAF HBL ⊢
  clear hrj hlb heb hM hab hnY hr hrY hst hp hY h10
  go_enter Tryz.func131, Tryz.ntmps131
  go_wp2_with fail
  obtain ⟨W, hW⟩ : ∃ W, (((w.alloc (.cells #[.slice a p.pts.length cap, .int .i64 p.pump, .int .i64 p.on, .int .i64 p.off] 44)).alloc (.cells #[.int .i64 r1, .int .i64 r2] 25)).alloc (.cells #[.int .i64 s1, .bool s2] 46)).alloc (.cells #[.int .i64 s1, .bool s2] 46) = W := ⟨_, rfl⟩
  rw [hW]
  have K5 : Hid (Blk W w.heap.size #[.slice a p.pts.length cap, .int .i64 p.pump, .int .i64 p.on, .int .i64 p.off]) := by subst hW; exact Lib.hid ((((Blk.new _ _ _).alloc _).alloc _).alloc _)
  have K8 : Hid (Blk W (w.heap.size + 1 + 1) #[.int .i64 s1, .bool s2]) := by subst hW; exact Lib.hid ((Blk.newAt _ _ _ (by simp)).alloc _)
  have K17 : Hid (Blk W (w.heap.size + 1 + 1 + 1) #[.int .i64 s1, .bool s2]) := by subst hW; exact Lib.hid (Blk.newAt _ _ _ (by simp))
  have HB : Hid (Below w.heap.size w W) := by subst hW; exact Lib.hid (bAlloc (bAlloc (bAlloc (bAlloc (bSelf w) _) _) _) _)
  clear hW
  refine (HAF.out _ _ _ HB.out (one_reads (s := (s1, s2)) K17.out)).mono ?_
  rintro e w1 ⟨aM, cM, rfl, hcM, hrM, hb⟩
  replace K5 := Lib.hid (K5.out.to hb)
  replace K8 := Lib.hid (K8.out.to hb)
  replace HB := Lib.hid (bThen HB.out hb)
  have HRM := Lib.hid hrM
  clear hb hrM HAF K17
  obtain ⟨-, k5, -⟩ := K5.out
  obtain ⟨-, k8, -⟩ := K8.out
  go_wp2_with fail
  clear k5 k8
  refine (HBL.out _ HB.out).mono ?_
  rintro e w2 ⟨rfl, hb⟩
  replace HB := Lib.hid (bThen HB.out hb)
  replace HRM := Lib.hid (HRM.out.to hb)
  clear hb HBL K5 K8
  cases lb
  · cases eb
    · skip
      obtain ⟨nM, hnM⟩ : ∃ n, M.length = n := ⟨_, rfl⟩
      rw [hnM] at HRM HALL hM51 ⊢
      clear hnM
      go_wp2_with fail
      go_loopw [13] (fun s13 wr => ∃ k : Nat, s13 = .int .i64 k ∧ k ≤ nM ∧ Hid (∀ j, j < k → inS Y (sg M j) = true) ∧ Hid (Below w2.heap.size w2 wr)) (fun s13 _ => nM - (intOf s13).toNat)
      case atStart => exact ⟨0, rfl, Nat.zero_le _, Lib.hid (by intro j h; omega), Lib.hid (bSelf w2)⟩
      case round =>
        obtain ⟨k, rfl, hk, hin, HR0⟩ := hrel
        by_cases hlt : k < nM
        · obtain ⟨ba, oa, rfl, hba, hca⟩ := (HRM.out.to HR0.out).at (k := k * 2) (by omega)
          obtain ⟨⟨t1, t2⟩, hz⟩ : ∃ q, sg M k = q := ⟨_, rfl⟩
          have e0 : wr.cell? ⟨ba, oa + k * 2, none⟩ = some (.int .i64 t1) := by have := hca (k * 2) (by omega); rw [osts0, hz] at this; exact this
          have e1 : wr.cell? ⟨ba, oa + k * 2 + 1, none⟩ = some (.bool t2) := by have := hca (k * 2 + 1) (by omega); rw [osts1, hz] at this; exact this
          have HH := Lib.hid (fun W hb => HHA.out W (t1, t2) hb)
          obtain ⟨hbv, hhb⟩ : ∃ b, inS Y (t1, t2) = b := ⟨_, rfl⟩
          rw [hhb] at HH
          dsimp only at HH
          have HZ := Lib.hid hz
          have HHB := Lib.hid hhb
          clear hca hz hhb HHA
          go_wp2_with fail
          clear e0 e1
          refine (HH.out _ (bThen HB.out HR0.out)).mono ?_
          rintro e w3 ⟨rfl, hb⟩
          replace HR0 := Lib.hid (bThen HR0.out hb)
          clear hb HH
          cases hbv
          · obtain rfl : ab = false := by
              cases ab
              · rfl
              · have h1 := HALL.out.1 (by first | rfl | trivial) k hlt
                rw [HZ.out, HHB.out] at h1
                cases h1
            go_wp2_with fail
            go_ret
            exact ⟨ret_int (by rw [← HRJ.out]; rfl), bThen HB.out HR0.out⟩
          · go_wp2_with fail
            go_roundw
            case rel =>
              refine ⟨k + 1, by go_num, by omega, Lib.hid (fun j hj => ?_), HR0⟩
              by_cases h : j = k
              · subst h; rw [HZ.out]; exact HHB.out
              · exact hin.out j (by omega)
            case measure => simp [intOf]; omega
        · obtain rfl : nM = k := by omega
          obtain rfl : ab = true := HALL.out.2 hin.out
          go_wp2_with fail
          go_ret
          exact ⟨ret_int (by rw [← HRJ.out]; rfl), bThen HB.out HR0.out⟩
    · skip
      go_wp2_with fail
      go_ret
      exact ⟨ret_int (by rw [← HRJ.out]; rfl), HB.out⟩
  · skip
    go_wp2_with fail
    go_ret
    exact ⟨ret_int (by rw [← HRJ.out]; rfl), HB.out⟩

end Go.Proofs.YtjfedpblkejmkaaGreat

/-
  The reference: SafeErr.
-/
namespace Go.Proofs.YtjfedpblkejmkaaGreat
open Go.RowKit
attribute [local go_sem] Oper.semAt_some

theorem csE_val (p : Plt) (L : List OSt) (k : Nat) : csE p L k = if stE p (sg L k).1 ≠ 0 then stE p (sg L k).1 else if k = 0 then 0 else if ltS (sg L (k - 1)) (sg L k) = true then 0 else 9 := by
  unfold csE stE firstE firstE firstE
  rw [ordI_lt]
  cases h : wthn (sg L k).1 0 (capV p.pts)
  · rfl
  · by_cases h0 : k = 0
    · rw [if_pos h0, decide_eq_true h0]; rfl
    · rw [if_neg h0, decide_eq_false h0]
      cases ltS (sg L (k - 1)) (sg L k) <;> rfl

set_option maxHeartbeats 12800000 in
set_option maxRecDepth 100000 in
theorem rSafeErr_any (p : Plt) (r : Int × Int) (lim : Int) (L : List OSt) (a aL : Option Addr) (cap cL : Nat) (w : World) (h0 : opRE p r lim = 0) (hlen : L.length ≤ 1000) (hr : Reads w a (p.pts.length * 2) (fracs p.pts)) (hrL : Reads w aL (L.length * 2) (osts L)) :
    Calls Tryz.prog 57 #[.agg (plC p a cap), .agg #[.int .i64 r.1, .int .i64 r.2], .int .i64 lim, .slice aL L.length cL] w fun e w' => e = .returned (.tuple #[.int .i64 (csR p r lim L).1, .int .i64 (csR p r lim L).2]) ∧ Below w.heap.size w w' := by
  obtain ⟨hp, hrg, hl0, hl1⟩ := opRE_ok h0
  have hp2 := hp.pts.two
  have hp8 := hp.pts.few
  have HR : Hid (csR p r lim L = if (eachR (csE p L) 0 L.length).2 = 0 then eachR (fun k => jdg p r lim (sg L k) (inS L)) 0 L.length else eachR (csE p L) 0 L.length) := Lib.hid (by unfold csR; rw [if_pos h0])
  have HSE := Lib.hid (fun W (t : OSt) (hb : Below w.heap.size w W) => rStateErr_any p t a cap W (by omega) (by omega) (hr.to hb))
  have HJD := Lib.hid (fun W (t : OSt) (ht : StOk p t) (hb : Below w.heap.size w W) => rJudged_any p r lim t L a aL cap cL W hp hrg ⟨hl0, hl1⟩ ht (by omega) (hr.to hb) (hrL.to hb))
  have HCV := Lib.hid (fun k => csE_val p L k)
  have HEOK := Lib.hid (fun (h : (eachR (csE p L) 0 L.length).2 = 0) k (hk : k < L.length) => csE_ok (eachR_ok _ _ h k (Nat.zero_le _) (by omega)))
  have HA := Lib.hid hrL
  obtain ⟨⟨c1, c2⟩, hcr⟩ : ∃ x, csR p r lim L = x := ⟨_, rfl⟩
  rw [hcr] at HR ⊢
  obtain ⟨r1, r2⟩ := r
  obtain ⟨n, hn⟩ : ∃ n, L.length = n := ⟨_, rfl⟩
  rw [hn] at HR HJD HEOK HA hlen ⊢
  dsimp only at HJD ⊢
  unfold plC at HSE HJD ⊢
  clear hcr hr hrL h0 hp hrg hl0 hl1 hp2 hp8 hn
  go_enter Tryz.func57, Tryz.ntmps57
  go_wp2_with fail
  obtain ⟨W, hW⟩ : ∃ W, (w.alloc (.cells #[.slice a p.pts.length cap, .int .i64 p.pump, .int .i64 p.on, .int .i64 p.off] 44)).alloc (.cells #[.int .i64 r1, .int .i64 r2] 25) = W := ⟨_, rfl⟩
  rw [hW]
  have K4 : Hid (Blk W w.heap.size #[.slice a p.pts.length cap, .int .i64 p.pump, .int .i64 p.on, .int .i64 p.off]) := by subst hW; exact Lib.hid ((Blk.new _ _ _).alloc _)
  have K5 : Hid (Blk W (w.heap.size + 1) #[.int .i64 r1, .int .i64 r2]) := by subst hW; exact Lib.hid (Blk.newAt _ _ _ (by simp))
  have HB : Hid (Below w.heap.size w W) := by subst hW; exact Lib.hid (bAlloc (bAlloc (bSelf w) _) _)
  replace HA := Lib.hid (HA.out.to HB.out)
  clear hW
  go_loopw [10, 11] (fun s10 _ wr => ∃ k : Nat, s10 = .int .i64 k ∧ k ≤ n ∧ Hid (eachR (csE p L) 0 n = eachR (csE p L) k (n - k)) ∧ Hid (Below W.heap.size W wr)) (fun s10 _ _ => n - (intOf s10).toNat)
  case atStart => exact ⟨0, rfl, Nat.zero_le _, Lib.hid rfl, Lib.hid (bSelf W)⟩
  case round =>
    obtain ⟨k, rfl, hk, hee, HR0⟩ := hrel
    by_cases hlt : k < n
    · have HBAD : Hid (∀ e, csE p L k = e → e ≠ 0 → (c1, c2) = ((k : Int), e)) := Lib.hid (fun e he hne => by
        have h1 := eachR_stop (err := csE p L) hlt (by rw [he]; exact hne)
        have h2 : eachR (csE p L) 0 n = ((k : Int), e) := by rw [hee.out, h1, he]
        rw [HR.out, h2, if_neg hne])
      have HGO : Hid (csE p L k = 0 → eachR (csE p L) 0 n = eachR (csE p L) (k + 1) (n - (k + 1))) := Lib.hid (fun h => hee.out.trans (eachR_step (err := csE p L) hlt h))
      have HV := Lib.hid (HCV.out k)
      obtain ⟨er, her⟩ : ∃ e, csE p L k = e := ⟨_, rfl⟩
      rw [her] at HBAD HGO HV
      obtain ⟨ba, oa, rfl, hba, hca⟩ := HA.out.at (k := k * 2) (by omega)
      obtain ⟨⟨n1, d1⟩, hz⟩ : ∃ q, sg L k = q := ⟨_, rfl⟩
      have h1 : Hid (W.cell? ⟨ba, oa + k * 2, none⟩ = some (.int .i64 n1)) := Lib.hid (by rw [hca _ (by omega), osts0, hz])
      have h2 : Hid (W.cell? ⟨ba, oa + k * 2 + 1, none⟩ = some (.bool d1)) := Lib.hid (by rw [Nat.add_assoc, hca _ (by omega), osts1, hz])
      have HS1 := Lib.hid (fun W hb => HSE.out W (n1, d1) hb)
      rw [hz] at HV
      obtain ⟨se, hse⟩ : ∃ e, stE p n1 = e := ⟨_, rfl⟩
      dsimp only at HS1 HV
      rw [hse] at HS1 HV
      clear her hca hz hse HCV HEOK HJD HSE
      go_wp2_with fail
      refine wp_region_quiet_all (fun w' => Below (World.heap wr).size (wr) w') (by kernel_rfl) (by kernel_rfl) (Below.refl _ _).drew ?_
      refine WQ.out ?_
      repeat (first | (refine WQ_no (by rfl) ?_; (simp only [Act.put, List.setIfInBounds_toArray, List.set_cons_zero, List.set_cons_succ])) | (refine WQ_yes (by rfl) ?_; apply Exists.intro; refine ⟨fun w1 hb1 => ?_, ?_⟩; (focus (((obtain ⟨-, k4, -⟩ := K4.out.to (HR0.out.trans (hb1.mono HR0.out.size)); have k1 := ((HR0.out.trans (hb1.mono HR0.out.size)).cell (p := ⟨ba, oa + k * 2, none⟩) hba).trans h1.out; have k2 := ((HR0.out.trans (hb1.mono HR0.out.size)).cell (p := ⟨ba, oa + k * 2 + 1, none⟩) hba).trans h2.out); have hb1 := Lib.hid hb1; go_simp); (try (go_bits; try go_simp)); (try (rw [if_pos (by omega)]; try go_simp)); (first | done | ((go_at_call 28; refine (HS1.out _ (bThen HB.out (HR0.out.trans (hb1.out.mono HR0.out.size)))).mono ?_; rintro e w' ⟨rfl, hb⟩; exact ⟨rfl, bThen hb1.out hb⟩)) | (with_reducible rfl) | exact rfl))); (simp only [Act.put, List.setIfInBounds_toArray, List.set_cons_zero, List.set_cons_succ])))
      refine WQ_nil ?_
      intro w1 hb1
      replace HR0 := Lib.hid (HR0.out.trans (hb1.mono HR0.out.size))
      clear hb1 HS1
      by_cases hs0 : se = 0
      case neg =>
        have hx : er = se := by rw [HV.out, if_pos hs0]
        have hq := HBAD.out _ rfl (by rw [hx]; exact hs0)
        injection hq with q1 q2
        subst q1
        subst hx
        subst q2
        have hs0' : (c2 != 0) = true := by simpa using hs0
        go_wp2_with fail
        go_ret2
        exact ⟨rfl, bThen HB.out HR0.out⟩
      subst hs0
      obtain ⟨wx, hwx⟩ : ∃ x, x = w1 := ⟨_, rfl⟩
      subst hwx
      by_cases hk0 : k = 0
      · have hx : er = 0 := by rw [HV.out, if_neg (by decide), if_pos hk0]
        have HG := Lib.hid (HGO.out hx)
        subst hk0
        clear HGO HBAD HV h1 h2
        go_wp2_with fail
        refine wp_region_quiet_all (fun w' => Below (World.heap wx).size (wx) w') (by kernel_rfl) (by kernel_rfl) (Below.refl _ _).drew ?_
        refine WQ.out ?_
        repeat (first | (refine WQ_no (by rfl) ?_; (simp only [Act.put, List.setIfInBounds_toArray, List.set_cons_zero, List.set_cons_succ])) | (refine WQ_yes (by rfl) ?_; apply Exists.intro; refine ⟨fun w1 hb1 => ?_, ?_⟩; (focus ((skip; have hb1 := Lib.hid hb1; go_simp); (try (go_bits; try go_simp)); (try (rw [if_pos (by omega)]; try go_simp)); (first | done | (fail) | (with_reducible rfl) | exact rfl))); (simp only [Act.put, List.setIfInBounds_toArray, List.set_cons_zero, List.set_cons_succ])))
        refine WQ_nil ?_
        intro w1 hb1
        replace HR0 := Lib.hid (HR0.out.trans (hb1.mono HR0.out.size))
        clear hb1
        go_wp2_with fail
        go_roundw
        case rel => exact ⟨1, by go_num, by omega, HG, HR0⟩
        case measure => simp [intOf]; omega
      · obtain ⟨j, hj⟩ : ∃ j, k - 1 = j := ⟨_, rfl⟩
        have hv := HV.out
        rw [if_neg (by decide), if_neg hk0, hj] at hv
        obtain ⟨b', o', e', hb', hca⟩ := HA.out.at (k := j * 2) (by omega)
        cases e'
        obtain ⟨⟨n2, d2⟩, hz⟩ : ∃ q, sg L j = q := ⟨_, rfl⟩
        have g1 : Hid (W.cell? ⟨ba, oa + j * 2, none⟩ = some (.int .i64 n2)) := Lib.hid (by rw [hca _ (by omega), osts0, hz])
        have g2 : Hid (W.cell? ⟨ba, oa + j * 2 + 1, none⟩ = some (.bool d2)) := Lib.hid (by rw [Nat.add_assoc, hca _ (by omega), osts1, hz])
        rw [hz] at hv
        have HLS := Lib.hid (fun W => rLess_any (n2, d2) (n1, d1) W)
        obtain ⟨lt, hlt'⟩ : ∃ b, ltS (n2, d2) (n1, d1) = b := ⟨_, rfl⟩
        rw [hlt'] at HLS hv
        dsimp only at HLS
        have HV2 := Lib.hid hv
        have hkj : (k : Int) - 1 = (j : Int) := by omega
        have hkn : (k : Int) < (n : Int) := by omega
        have hjn : (j : Int) < (n : Int) := by omega
        have hkp : (0 : Int) < (k : Int) := by omega
        clear hlt' hz hca hb' hv HV hj
        go_wp2_with fail
        refine wp_region_quiet_all (fun w' => Below (World.heap wx).size (wx) w') (by kernel_rfl) (by kernel_rfl) (Below.refl _ _).drew ?_
        refine WQ.out ?_
        repeat (first | (refine WQ_no (by rfl) ?_; (simp only [Act.put, List.setIfInBounds_toArray, List.set_cons_zero, List.set_cons_succ])) | (refine WQ_yes (by rfl) ?_; apply Exists.intro; refine ⟨fun w1 hb1 => ?_, ?_⟩; (focus (((have u0 : ((0 : Int) < (k : Int)) = True := eq_true (by omega); have x0 : (0 < k) = True := eq_true (by omega); have k1 := ((HR0.out.trans (hb1.mono HR0.out.size)).cell (p := ⟨ba, oa + k * 2, none⟩) hba).trans h1.out; have k2 := ((HR0.out.trans (hb1.mono HR0.out.size)).cell (p := ⟨ba, oa + k * 2 + 1, none⟩) hba).trans h2.out; have m1 := ((HR0.out.trans (hb1.mono HR0.out.size)).cell (p := ⟨ba, oa + j * 2, none⟩) hba).trans g1.out; have m2 := ((HR0.out.trans (hb1.mono HR0.out.size)).cell (p := ⟨ba, oa + j * 2 + 1, none⟩) hba).trans g2.out); have hb1 := Lib.hid hb1; go_simp); (try (go_bits; try go_simp)); (try (rw [if_pos (by omega)]; try go_simp)); (first | done | ((go_at_call 130; refine (HLS.out _).mono ?_; rintro e w' ⟨rfl, hb⟩; exact ⟨rfl, bThen hb1.out hb⟩)) | (with_reducible rfl) | exact rfl))); (simp only [Act.put, List.setIfInBounds_toArray, List.set_cons_zero, List.set_cons_succ])))
        refine WQ_nil ?_
        intro w1 hb1
        replace HR0 := Lib.hid (HR0.out.trans (hb1.mono HR0.out.size))
        clear hb1 HLS
        cases lt
        · have hx : er = 9 := by rw [HV2.out]; rfl
          have hq := HBAD.out _ hx (by decide)
          injection hq with q1 q2
          subst q1 q2
          clear HBAD HGO HV2
          go_wp2_with fail
          go_ret2
          exact ⟨rfl, bThen HB.out HR0.out⟩
        · have hx : er = 0 := by rw [HV2.out]; rfl
          have HG := Lib.hid (HGO.out hx)
          clear HBAD HGO HV2
          go_wp2_with fail
          go_roundw
          case rel => exact ⟨k + 1, by go_num, by omega, HG, HR0⟩
          case measure => simp [intOf]; omega
    · obtain rfl : n = k := by omega
      have hE : eachR (csE p L) 0 n = (0, 0) := by rw [hee.out, Nat.sub_self]; rfl
      have hR := HR.out
      rw [hE, if_pos rfl] at hR
      have HST := Lib.hid (HEOK.out (by rw [hE]))
      have HR2 := Lib.hid hR
      obtain ⟨wv, hwv⟩ : ∃ wv, wv = wr := ⟨_, rfl⟩
      subst hwv
      clear hE hR HEOK HR HCV HSE hee
      go_wp2_with fail
      go_loopw [12, 13] (fun s12 _ wr => ∃ k : Nat, s12 = .int .i64 k ∧ k ≤ n ∧ Hid (eachR (fun k => jdg p (r1, r2) lim (sg L k) (inS L)) 0 n = eachR (fun k => jdg p (r1, r2) lim (sg L k) (inS L)) k (n - k)) ∧ Hid (Below W.heap.size W wr)) (fun s12 _ _ => n - (intOf s12).toNat)
      case atStart => exact ⟨0, rfl, Nat.zero_le _, Lib.hid rfl, HR0⟩
      case round =>
        clear HR0
        obtain ⟨k, rfl, hk, hee, HR0⟩ := hrel
        by_cases hlt : k < n
        · have HBAD : Hid (∀ e, jdg p (r1, r2) lim (sg L k) (inS L) = e → e ≠ 0 → (c1, c2) = ((k : Int), e)) := Lib.hid (fun e he hne => by
            have h1 := eachR_stop (err := fun k => jdg p (r1, r2) lim (sg L k) (inS L)) hlt (by rw [he]; exact hne)
            rw [HR2.out, hee.out, h1, he])
          have HGO : Hid (jdg p (r1, r2) lim (sg L k) (inS L) = 0 → eachR (fun k => jdg p (r1, r2) lim (sg L k) (inS L)) 0 n = eachR (fun k => jdg p (r1, r2) lim (sg L k) (inS L)) (k + 1) (n - (k + 1))) := Lib.hid (fun h => hee.out.trans (eachR_step (err := fun k => jdg p (r1, r2) lim (sg L k) (inS L)) hlt h))
          have HJ := Lib.hid (fun W hb => HJD.out W (sg L k) (HST.out k hlt) hb)
          obtain ⟨je, hje⟩ : ∃ e, jdg p (r1, r2) lim (sg L k) (inS L) = e := ⟨_, rfl⟩
          rw [hje] at HBAD HGO HJ
          obtain ⟨ba, oa, rfl, hba, hca⟩ := HA.out.at (k := k * 2) (by omega)
          obtain ⟨⟨n1, d1⟩, hz⟩ : ∃ q, sg L k = q := ⟨_, rfl⟩
          have h1 : Hid (W.cell? ⟨ba, oa + k * 2, none⟩ = some (.int .i64 n1)) := Lib.hid (by rw [hca _ (by omega), osts0, hz])
          have h2 : Hid (W.cell? ⟨ba, oa + k * 2 + 1, none⟩ = some (.bool d1)) := Lib.hid (by rw [Nat.add_assoc, hca _ (by omega), osts1, hz])
          rw [hz] at HJ
          dsimp only at HJ
          clear hje hca hz HJD HST
          go_wp2_with fail
          refine wp_region_quiet_all (fun w' => Below (World.heap wr).size (wr) w') (by kernel_rfl) (by kernel_rfl) (Below.refl _ _).drew ?_
          refine WQ.out ?_
          repeat (first | (refine WQ_no (by rfl) ?_; (simp only [Act.put, List.setIfInBounds_toArray, List.set_cons_zero, List.set_cons_succ])) | (refine WQ_yes (by rfl) ?_; apply Exists.intro; refine ⟨fun w1 hb1 => ?_, ?_⟩; (focus (((obtain ⟨-, k4, -⟩ := K4.out.to (HR0.out.trans (hb1.mono HR0.out.size)); obtain ⟨-, k5, -⟩ := K5.out.to (HR0.out.trans (hb1.mono HR0.out.size)); have k1 := ((HR0.out.trans (hb1.mono HR0.out.size)).cell (p := ⟨ba, oa + k * 2, none⟩) hba).trans h1.out; have k2 := ((HR0.out.trans (hb1.mono HR0.out.size)).cell (p := ⟨ba, oa + k * 2 + 1, none⟩) hba).trans h2.out); have hb1 := Lib.hid hb1; go_simp); (try (go_bits; try go_simp)); (try (rw [if_pos (by omega)]; try go_simp)); (first | done | ((go_at_call 131; refine (HJ.out _ (bThen HB.out (HR0.out.trans (hb1.out.mono HR0.out.size)))).mono ?_; rintro e w' ⟨rfl, hb⟩; exact ⟨rfl, bThen hb1.out hb⟩)) | (with_reducible rfl) | exact rfl))); (simp only [Act.put, List.setIfInBounds_toArray, List.set_cons_zero, List.set_cons_succ])))
          refine WQ_nil ?_
          intro w1 hb1
          replace HR0 := Lib.hid (HR0.out.trans (hb1.mono HR0.out.size))
          clear hb1 HJ
          by_cases hj0 : je = 0
          · subst hj0
            have HG := Lib.hid (HGO.out rfl)
            clear HBAD HGO
            go_wp2_with fail
            go_roundw
            case rel => exact ⟨k + 1, by go_num, by omega, HG, HR0⟩
            case measure => simp [intOf]; omega
          · have hq := HBAD.out _ rfl hj0
            injection hq with q1 q2
            subst q1
            subst q2
            have hj0' : (c2 != 0) = true := by simpa using hj0
            clear HBAD HGO
            go_wp2_with fail
            go_ret2
            exact ⟨rfl, bThen HB.out HR0.out⟩
        · obtain rfl : n = k := by omega
          have hq : (c1, c2) = (0, 0) := by rw [HR2.out, hee.out, Nat.sub_self]; rfl
          injection hq with q1 q2
          subst q1 q2
          go_wp2_with fail
          go_ret2
          exact ⟨rfl, bThen HB.out HR0.out⟩

end Go.Proofs.YtjfedpblkejmkaaGreat

/-
  Plain laws for OilSafe.
-/
namespace Go.Proofs.YtjfedpblkejmkaaGreat
open Go.RowKit

theorem nodup_leS : ∀ {l u : List OSt}, l.Nodup → (∀ x ∈ l, x ∈ u) → l.length ≤ u.length
  | [], u, _, _ => by simp
  | a :: l, u, hn, hs => by
    have hn' := List.nodup_cons.1 hn
    obtain ⟨p, q, e⟩ := List.append_of_mem (hs a (List.mem_cons_self ..))
    have h1 := nodup_leS (l := l) (u := p ++ q) hn'.2 (fun x hx => by
      have h2 := hs x (List.mem_cons_of_mem _ hx)
      rw [e, List.mem_append, List.mem_cons] at h2
      rw [List.mem_append]
      rcases h2 with h | h | h
      · exact .inl h
      · subst h; exact absurd hx hn'.1
      · exact .inr h)
    rw [e]
    simp only [List.length_cons, List.length_append] at h1 ⊢
    omega
theorem srt_nodup {l : List OSt} (h : SrtS l) : l.Nodup := List.Pairwise.imp (fun {a b} hab e => by subst e; rw [ltS_irr] at hab; cases hab) h
theorem sg_mem {l : List OSt} {k : Nat} (h : k < l.length) : sg l k ∈ l := by
  unfold sg
  rw [List.getD_eq_getElem?_getD, List.getElem?_eq_getElem h]
  exact List.getElem_mem h
end Go.Proofs.YtjfedpblkejmkaaGreat

/-
  The reference: Safe.
-/
namespace Go.Proofs.YtjfedpblkejmkaaGreat
open Go.RowKit
attribute [local go_sem] Oper.semAt_some

theorem safL_stop {p : Plt} {r : Int × Int} {lim : Int} {L : List OSt} (h : (itS p r lim L).length = L.length) : ∀ n, safL p r lim n L = L
  | 0 => rfl
  | n + 1 => by unfold safL; rw [if_pos h]
theorem safL_go {p : Plt} {r : Int × Int} {lim : Int} {L : List OSt} {n : Nat} (h : (itS p r lim L).length ≠ L.length) (hn : L.length ≤ n) : ∃ m, safL p r lim n L = safL p r lim m (itS p r lim L) ∧ (itS p r lim L).length ≤ m ∧ (itS p r lim L).length < L.length := by
  have h1 := itS_le p r lim L
  cases n with
  | zero => omega
  | succ m => exact ⟨m, by rw [safL, if_neg h], by omega, by omega⟩
def allP : Nat → List OSt
  | 0 => []
  | k + 1 => allP k ++ [((k : Int), false), ((k : Int), true)]
theorem allP_len : ∀ k, (allP k).length = 2 * k
  | 0 => rfl
  | k + 1 => by unfold allP; rw [List.length_append, allP_len k]; simp; omega
theorem allP_eq (p : Plt) : allP (capV p.pts + 1).toNat = allS p := by
  unfold allS
  generalize (capV p.pts + 1).toNat = n
  induction n with
  | zero => rfl
  | succ n ih => rw [List.range_succ, List.flatMap_append, ← ih]; rfl
theorem allP_cells (k : Nat) : scells (allP (k + 1)) = scells (allP k) ++ [.int .i64 (k : Int), .bool false, .int .i64 (k : Int), .bool true] := by
  show scells (allP k ++ _) = _
  unfold scells
  rw [List.flatMap_append]
  rfl
def goodB (p : Plt) (r : Int × Int) (lim : Int) (L : List OSt) (s : OSt) : Bool := jdg p r lim s (inS L) == 0
theorem filt_step {L : List OSt} {f : OSt → Bool} {k : Nat} (h : k < L.length) : (L.take (k + 1)).filter f = (L.take k).filter f ++ (if f (sg L k) = true then [sg L k] else []) := by
  rw [sg_take h, List.filter_append]
  congr 1
  by_cases hf : f (sg L k) = true
  · rw [if_pos hf, List.filter_cons_of_pos hf]; rfl
  · rw [if_neg hf, List.filter_cons_of_neg hf]; rfl
def slLen : Value → Nat
  | .slice _ n _ => n
  | _ => 0
def SfPost (S : List OSt) (w : World) (e : Ending) (w' : World) : Prop :=
  ∃ a' c', e = .returned (.slice a' S.length c') ∧ Reads w' a' (S.length * 2) (osts S) ∧ Below w.heap.size w w'

set_option maxHeartbeats 12800000 in
set_option maxRecDepth 100000 in
theorem rSafe_any (p : Plt) (r : Int × Int) (lim : Int) (a : Option Addr) (cap : Nat) (w : World) (h0 : opRE p r lim = 0) (hr : Reads w a (p.pts.length * 2) (fracs p.pts)) :
    Calls Tryz.prog 58 #[.agg (plC p a cap), .agg #[.int .i64 r.1, .int .i64 r.2], .int .i64 lim] w (SfPost (safS p r lim) w) := by
  obtain ⟨hp, hrg, hl0, hl1⟩ := opRE_ok h0
  have hp2 := hp.pts.two
  have hp8 := hp.pts.few
  have hc0 := cap_pos hp
  have hc1 := cap_le hp
  have HCP := Lib.hid (fun W (hb : Below w.heap.size w W) => rCapacity_any p a cap W (by omega) (by omega) (hr.to hb))
  have HJD := Lib.hid (fun W (t : OSt) (L : List OSt) aL cL (ht : StOk p t) (hL : L.length ≤ 1000) (hb : Below w.heap.size w W) hrL => rJudged_any p r lim t L a aL cap cL W hp hrg ⟨hl0, hl1⟩ ht (by omega) (hr.to hb) hrL)
  have HAL := Lib.hid (allP_eq p)
  have HMA := Lib.hid (fun x (hx : x ∈ allS p) => mem_allS.1 hx)
  have HSS : Hid (safS p r lim = safL p r lim (allS p).length (allS p)) := Lib.hid rfl
  obtain ⟨S, hS⟩ : ∃ S, safS p r lim = S := ⟨_, rfl⟩
  rw [hS] at HSS ⊢
  obtain ⟨C, hC⟩ : ∃ c, capV p.pts = c := ⟨_, rfl⟩
  rw [hC] at HCP HAL hc0 hc1
  obtain ⟨N, hN⟩ : ∃ N : Nat, (C + 1).toNat = N := ⟨_, rfl⟩
  have hCN : C + 1 = (N : Int) := by omega
  have hN2 : N ≤ 201 := by omega
  rw [hN] at HAL
  obtain ⟨r1, r2⟩ := r
  unfold plC at HCP HJD ⊢
  dsimp only at HJD ⊢
  clear hS hC hN hr h0 hp hrg hl0 hl1 hp2 hp8
  go_enter Tryz.func58, Tryz.ntmps58
  go_wp2_with fail
  obtain ⟨W, hW⟩ : ∃ W, (w.alloc (.cells #[.slice a p.pts.length cap, .int .i64 p.pump, .int .i64 p.on, .int .i64 p.off] 44)).alloc (.cells #[.int .i64 r1, .int .i64 r2] 25) = W := ⟨_, rfl⟩
  rw [hW]
  have K3 : Hid (Blk W w.heap.size #[.slice a p.pts.length cap, .int .i64 p.pump, .int .i64 p.on, .int .i64 p.off]) := by subst hW; exact Lib.hid ((Blk.new _ _ _).alloc _)
  have K4 : Hid (Blk W (w.heap.size + 1) #[.int .i64 r1, .int .i64 r2]) := by subst hW; exact Lib.hid (Blk.newAt _ _ _ (by simp))
  have HB : Hid (Below w.heap.size w W) := by subst hW; exact Lib.hid (bAlloc (bAlloc (bSelf w) _) _)
  clear hW
  go_loopw [7, 8] (fun s7 s8 wr => ∃ (k : Nat) (va : Option Addr) (vc : Nat), s7 = .slice va (2 * k) vc ∧ s8 = .int .i64 k ∧ k ≤ N ∧ Hid (wr.ownsRow W.heap.size 46 2 (.slice va (2 * k) vc) (2 * k) (scells (allP k))) ∧ Hid (Below W.heap.size W wr)) (fun _ s8 _ => N - (intOf s8).toNat)
  case atStart => exact ⟨0, none, 0, rfl, rfl, Nat.zero_le _, Lib.hid ⟨by simp [allP, scells], .inl ⟨rfl, rfl⟩⟩, Lib.hid (bSelf W)⟩
  case round =>
    obtain ⟨k, va, vc, rfl, rfl, hk, HO, HR0⟩ := hrel
    obtain ⟨-, k3, -⟩ := K3.out.to HR0.out
    go_wp2_with fail
    clear k3
    refine (HCP.out _ (bThen HB.out HR0.out)).mono ?_
    rintro e w2 ⟨rfl, hb⟩
    replace HR0 := Lib.hid (bThen HR0.out hb)
    have HOw := Lib.hid (owns_to HO.out hb)
    clear hb HO
    by_cases hlt : k < N
    · have hle : (k : Int) ≤ C := by omega
      obtain ⟨m, hm⟩ : ∃ m, 2 * k = m := ⟨_, rfl⟩
      have hm2 : m + 2 = 2 * (k + 1) := by omega
      have hmb : m ≤ 402 := by omega
      rw [hm] at HOw ⊢
      clear hm
      have HROW := Lib.hid (HOw.out.alloc (.cells #[.int .i64 (k : Int), .bool false, .int .i64 (k : Int), .bool true] 46))
      have HNN := Lib.hid (Blk.new w2 #[.int .i64 (k : Int), .bool false, .int .i64 (k : Int), .bool true] 46).news
      have hlo := Lib.hid HOw.out.lt
      have hsw : W.heap.size ≤ w2.heap.size := HR0.out.size
      go_wp2_with (at_builtin; go_loud (refine wpList_app W.heap.size rtSt rfl (.tmp 17) (.tmp 22) rfl _ m _ rfl HROW.out ⟨w2.heap.size, 0, none⟩ 2 2 [.int .i64 (k : Int), .bool false, .int .i64 (k : Int), .bool true] rfl rfl (by simpa using HNN.out) (onesS [((k : Int), false), ((k : Int), true)]) (by unfold maxLen; omega) (by omega) (by simp; omega) ?_; intro v' w7 hown' hgrow _ hwhere; obtain ⟨va', vc', rfl⟩ := ownsRow_sl hown'; have HO7 := Lib.hid hown'; have HG7 := Lib.hid hgrow; clear hown' hgrow hwhere))
      have HRn : Hid (Below W.heap.size W w7) := Lib.hid (HR0.out.trans (((Below.refl _ _).alloc hsw _).grown HG7.out (by simp; omega) (fun k e => (hlo.out k e).1)))
      rw [hm2] at HO7
      go_roundw
      case rel => exact ⟨k + 1, va', vc', rfl, by go_num, by omega, Lib.hid (by rw [allP_cells]; exact HO7.out), HRn⟩
      case measure => simp [intOf]; omega
    · obtain rfl : k = N := by omega
      have hgt : C < (k : Int) := by omega
      obtain ⟨a', cap', e, hcp, hrd, hfr⟩ := Reads.of_row (f := osts (allP k)) HOw.out (fun i hi => scells_get (allP k) i (by rw [allP_len]; exact hi))
      cases e
      have HRA := Lib.hid hrd
      have hlA := allP_len k
      have HLA := Lib.hid hlA
      have HEQ : Hid (S = safL p (r1, r2) lim (allP k).length (allP k)) := Lib.hid (by rw [HAL.out]; exact HSS.out)
      have HMM : Hid (∀ x ∈ allP k, StOk p x) := Lib.hid (by rw [HAL.out]; exact HMA.out)
      have hL4 : (allP k).length ≤ 1000 := by omega
      obtain ⟨wa, hwa⟩ : ∃ wa, wa = w2 := ⟨_, rfl⟩
      subst hwa
      replace K3 := Lib.hid (K3.out.to HR0.out)
      replace K4 := Lib.hid (K4.out.to HR0.out)
      replace HB := Lib.hid (bThen HB.out HR0.out)
      clear hrd hfr hlA HAL HSS HMA HOw HCP
      go_wp2_with fail
      go_loopw [7, 9, 10] (fun s7 _ _ wr => ∃ (L : List OSt) (va : Option Addr) (vc fu : Nat), s7 = .slice va L.length vc ∧ L.length ≤ fu ∧ L.length ≤ 1000 ∧ Hid (S = safL p (r1, r2) lim fu L) ∧ Hid (∀ x ∈ L, StOk p x) ∧ Hid (Reads wr va (L.length * 2) (osts L)) ∧ Hid (Below wa.heap.size wa wr)) (fun s7 _ _ _ => slLen s7)
      case atStart => exact ⟨allP k, va, vc, (allP k).length, by rw [HLA.out], Nat.le_refl _, hL4, HEQ, HMM, Lib.hid (by rw [HLA.out]; exact HRA.out), Lib.hid (bSelf wa)⟩
      case round =>
        clear HRA HEQ HMM HR0 hL4 HLA
        obtain ⟨L, va, vc, fu, rfl, hfu, hL, HEQ, HMM, HRL, HR0⟩ := hrel
        obtain ⟨wi, hwi⟩ : ∃ wi, wi = wr := ⟨_, rfl⟩
        subst hwi
        have HJ := Lib.hid (fun W (t : OSt) (ht : StOk p t) hb hrL => HJD.out W t L va vc ht hL hb hrL)
        have HFS := Lib.hid (fun k (hk : k < L.length) => filt_step (f := goodB p (r1, r2) lim L) hk)
        have HMK : Hid (∀ k, k < L.length → StOk p (sg L k)) := Lib.hid (fun k hk => HMM.out _ (sg_mem hk))
        have HIT : Hid (L.filter (goodB p (r1, r2) lim L) = itS p (r1, r2) lim L) := Lib.hid rfl
        have HSTP := Lib.hid (fun (h : (itS p (r1, r2) lim L).length = L.length) => safL_stop h fu)
        have HGON := Lib.hid (fun (h : (itS p (r1, r2) lim L).length ≠ L.length) => safL_go h hfu)
        have HTL : Hid (∀ k, ((L.take k).filter (goodB p (r1, r2) lim L)).length ≤ k) := Lib.hid (fun k => Nat.le_trans (List.length_filter_le ..) (by rw [List.length_take]; omega))
        obtain ⟨n, hn⟩ : ∃ n, L.length = n := ⟨_, rfl⟩
        have HLN := Lib.hid hn
        rw [hn] at HJ HFS HMK HSTP HGON HRL hfu hL ⊢
        clear hn hfu HJD
        go_wp2_with fail
        go_loopw [9, 10] (fun s9 s10 wr => ∃ (k : Nat) (vb : Option Addr) (vd : Nat) (o : List OSt), s9 = .slice vb o.length vd ∧ s10 = .int .i64 k ∧ k ≤ n ∧ Hid (o = (L.take k).filter (goodB p (r1, r2) lim L)) ∧ Hid (wr.ownsRow wi.heap.size 46 2 (.slice vb o.length vd) o.length (scells o)) ∧ Hid (Below wi.heap.size wi wr)) (fun _ s10 _ => n - (intOf s10).toNat)
        case atStart => exact ⟨0, none, 0, [], rfl, rfl, Nat.zero_le _, Lib.hid (by simp), Lib.hid ⟨by simp [scells], .inl ⟨rfl, rfl⟩⟩, Lib.hid (bSelf wi)⟩
        case round =>
          obtain ⟨k, vb, vd, o, rfl, rfl, hk, ho, HO, HR1⟩ := hrel
          have hol : o.length ≤ k := by rw [ho.out]; exact HTL.out k
          obtain ⟨m, hm⟩ : ∃ m, o.length = m := ⟨_, rfl⟩
          have HM := Lib.hid hm
          rw [hm] at HO hol ⊢
          clear hm
          by_cases hlt : k < n
          · obtain ⟨ba, oa, rfl, hba, hca⟩ := HRL.out.at (k := k * 2) (by omega)
            have HST1 := HFS.out k hlt
            have HJ1 := Lib.hid (fun W hb hrL => HJ.out W (sg L k) (HMK.out k hlt) hb hrL)
            unfold goodB at HST1
            obtain ⟨⟨n1, d1⟩, hz⟩ : ∃ q, sg L k = q := ⟨_, rfl⟩
            have h1 : Hid (wi.cell? ⟨ba, oa + k * 2, none⟩ = some (.int .i64 n1)) := Lib.hid (by rw [hca _ (by omega), osts0, hz])
            have h2 : Hid (wi.cell? ⟨ba, oa + k * 2 + 1, none⟩ = some (.bool d1)) := Lib.hid (by rw [Nat.add_assoc, hca _ (by omega), osts1, hz])
            rw [hz] at HST1 HJ1
            obtain ⟨je, hje⟩ : ∃ e, jdg p (r1, r2) lim (n1, d1) (inS L) = e := ⟨_, rfl⟩
            rw [hje] at HST1 HJ1
            dsimp only at HJ1
            have HST2 : Hid ((L.take (k + 1)).filter (goodB p (r1, r2) lim L) = (L.take k).filter (goodB p (r1, r2) lim L) ++ (if (je == 0) = true then [(n1, d1)] else [])) := Lib.hid HST1
            clear hca hz hje HST1 HFS HMK HJ
            go_wp2_with fail
            refine wp_region_quiet_all (fun w' => Below (World.heap wr).size (wr) w') (by kernel_rfl) (by kernel_rfl) (Below.refl _ _).drew ?_
            refine WQ.out ?_
            repeat (first | (refine WQ_no (by rfl) ?_; (simp only [Act.put, List.setIfInBounds_toArray, List.set_cons_zero, List.set_cons_succ])) | (refine WQ_yes (by rfl) ?_; apply Exists.intro; refine ⟨fun w1 hb1 => ?_, ?_⟩; (focus (((obtain ⟨-, k3, -⟩ := K3.out.to (HR0.out.trans ((HR1.out.trans (hb1.mono HR1.out.size)).mono HR0.out.size)); obtain ⟨-, k4, -⟩ := K4.out.to (HR0.out.trans ((HR1.out.trans (hb1.mono HR1.out.size)).mono HR0.out.size)); have k1 := ((HR1.out.trans (hb1.mono HR1.out.size)).cell (p := ⟨ba, oa + k * 2, none⟩) hba).trans h1.out; have k2 := ((HR1.out.trans (hb1.mono HR1.out.size)).cell (p := ⟨ba, oa + k * 2 + 1, none⟩) hba).trans h2.out); have hb1 := Lib.hid hb1; go_simp); (try (go_bits; try go_simp)); (try (rw [if_pos (by omega)]; try go_simp)); (first | done | ((go_at_call 131; refine (HJ1.out _ (bThen HB.out (HR0.out.trans ((HR1.out.trans (hb1.out.mono HR1.out.size)).mono HR0.out.size))) (HRL.out.to (HR1.out.trans (hb1.out.mono HR1.out.size)))).mono ?_; rintro e w' ⟨rfl, hb⟩; exact ⟨rfl, bThen hb1.out hb⟩)) | (with_reducible rfl) | exact rfl))); (simp only [Act.put, List.setIfInBounds_toArray, List.set_cons_zero, List.set_cons_succ])))
            refine WQ_nil ?_
            intro w1 hb1
            have HOw := Lib.hid (owns_to HO.out hb1)
            replace HR1 := Lib.hid (HR1.out.trans (hb1.mono HR1.out.size))
            clear hb1 HJ1 HO
            by_cases hj0 : je = 0
            · subst hj0
              have hf : (L.take (k + 1)).filter (goodB p (r1, r2) lim L) = o ++ [(n1, d1)] := by rw [HST2.out, ho.out]; rfl
              have HF := Lib.hid hf
              have hll : (o ++ [(n1, d1)]).length = m + 1 := by rw [List.length_append, HM.out]; rfl
              have HLL := Lib.hid hll
              have HROW := Lib.hid (HOw.out.alloc (.cells #[.int .i64 n1, .bool d1] 46))
              have HNN := Lib.hid (Blk.new w1 #[.int .i64 n1, .bool d1] 46).news
              have hlo := Lib.hid HOw.out.lt
              have hsw : wi.heap.size ≤ w1.heap.size := HR1.out.size
              have k1 := (HR1.out.cell (p := ⟨ba, oa + k * 2, none⟩) hba).trans h1.out
              have k2 := (HR1.out.cell (p := ⟨ba, oa + k * 2 + 1, none⟩) hba).trans h2.out
              clear hf hll HST2
              go_wp2_with (at_builtin; go_loud (refine wpList_app wi.heap.size rtSt rfl (.tmp 40) (.tmp 45) rfl _ m _ rfl HROW.out ⟨w1.heap.size, 0, none⟩ 1 1 [.int .i64 n1, .bool d1] rfl rfl (by simpa using HNN.out) (onesS [(n1, d1)]) (by unfold maxLen; omega) (by omega) (by simp; omega) ?_; intro v' w7 hown' hgrow _ hwhere; obtain ⟨vb', vd', rfl⟩ := ownsRow_sl hown'; have HO7 := Lib.hid hown'; have HG7 := Lib.hid hgrow; clear hown' hgrow hwhere k1 k2))
              have HRn : Hid (Below wi.heap.size wi w7) := Lib.hid (HR1.out.trans (((Below.refl _ _).alloc hsw _).grown HG7.out (by simp; omega) (fun k e => (hlo.out k e).1)))
              go_roundw
              case rel => exact ⟨k + 1, vb', vd', o ++ [(n1, d1)], by rw [HLL.out], by go_num, by omega, Lib.hid HF.out.symm, Lib.hid (by rw [HLL.out, scells_snoc]; exact HO7.out), HRn⟩
              case measure => simp [intOf]; omega
            · have hf : (L.take (k + 1)).filter (goodB p (r1, r2) lim L) = o := by
                rw [HST2.out, ho.out, if_neg (by simpa using hj0), List.append_nil]
              have HF := Lib.hid hf
              clear hf HST2
              go_wp2_with fail
              go_roundw
              case rel => exact ⟨k + 1, vb, vd, o, by rw [HM.out], by go_num, by omega, Lib.hid HF.out.symm, Lib.hid (by rw [HM.out]; exact HOw.out), HR1⟩
              case measure => simp [intOf]; omega
          · obtain rfl : n = k := by omega
            have ho2 : o = itS p (r1, r2) lim L := by rw [ho.out, ← HLN.out, List.take_length]; exact HIT.out
            have HO2 := Lib.hid ho2
            have hmi : (itS p (r1, r2) lim L).length = m := by rw [← ho2]; exact HM.out
            rw [hmi] at HSTP HGON
            have HMI := Lib.hid hmi
            clear ho2 hmi HJ HFS HMK ho HTL HIT
            by_cases he : m = n
            · have hS : S = L := by rw [HEQ.out]; exact HSTP.out he
              go_wp2_with fail
              go_ret
              refine ⟨va, vc, ?_, ?_, bThen HB.out (HR0.out.trans (HR1.out.mono HR0.out.size))⟩
              · rw [hS, HLN.out]; rfl
              · rw [hS, HLN.out]; exact HRL.out.to HR1.out
            · obtain ⟨fu', e1, e2, e3⟩ := HGON.out he
              obtain ⟨a', cap', e, hcp, hrd, hfr⟩ := Reads.of_row (f := osts o) HO.out (fun i hi => scells_get o i (by rw [HM.out]; exact hi))
              cases e
              have HRO := Lib.hid hrd
              have HEQ2 : Hid (S = safL p (r1, r2) lim fu' o) := Lib.hid (by rw [HO2.out, ← e1]; exact HEQ.out)
              have HMO : Hid (∀ x ∈ o, StOk p x) := Lib.hid (fun x hx => HMM.out x (by rw [HO2.out] at hx; exact (List.mem_filter.1 hx).1))
              have hE2 := Lib.hid e2
              have hE3 := Lib.hid e3
              clear hrd hfr hcp HSTP HGON e1 HRL HEQ HMM
              go_wp2_with fail
              go_roundw
              case rel => exact ⟨o, vb, vd, fu', by rw [HM.out], by have := HM.out; have := hE2.out; omega, by have := HM.out; omega, HEQ2, HMO, Lib.hid (by rw [HM.out]; exact HRO.out), Lib.hid (HR0.out.trans (HR1.out.mono HR0.out.size))⟩
              case measure => simp [slLen]; omega

end Go.Proofs.YtjfedpblkejmkaaGreat

/-
  The reference and the law: RangeErr, CheckClass, ClassErr, openErr.
-/
namespace Go.Proofs.YtjfedpblkejmkaaGreat
open Go.RowKit
attribute [local go_sem] Oper.semAt_some

theorem rgE_val (lo hi : Int) : rgE (lo, hi) = if wthn lo 0 50 = false then 2 else if wthn hi 0 50 = false then 2 else if hi < lo then 9 else 0 := by
  unfold rgE
  dsimp only
  by_cases h : hi < lo
  · rw [if_pos h, decide_eq_false (show ¬ lo ≤ hi by omega)]
    cases wthn lo 0 50 <;> cases wthn hi 0 50 <;> rfl
  · rw [if_neg h, decide_eq_true (show lo ≤ hi by omega)]
    cases wthn lo 0 50 <;> cases wthn hi 0 50 <;> rfl

set_option maxHeartbeats 800000 in
set_option maxRecDepth 100000 in
theorem rRangeErr_any (lo hi : Int) (w : World) :
    Calls Tryz.prog 53 #[.agg #[.int .i64 lo, .int .i64 hi]] w fun e w' => e = .returned (.int .i64 (rgE (lo, hi))) ∧ Below w.heap.size w w' := by
  have H1 := Lib.hid (fun W => rFlowErr_any lo W)
  have H2 := Lib.hid (fun W => rFlowErr_any hi W)
  have HV := Lib.hid (rgE_val lo hi)
  obtain ⟨r, hr⟩ : ∃ r, rgE (lo, hi) = r := ⟨_, rfl⟩
  rw [hr] at HV ⊢
  obtain ⟨b1, hb1⟩ : ∃ b, wthn lo 0 50 = b := ⟨_, rfl⟩
  obtain ⟨b2, hb2⟩ : ∃ b, wthn hi 0 50 = b := ⟨_, rfl⟩
  rw [hb1] at H1 HV
  rw [hb2] at H2 HV
  clear hr hb1 hb2
  cases b1
  · obtain rfl : r = 2 := HV.out
    clear HV
    go_enter Tryz.func53, Tryz.ntmps53
    go_wp2_with (go_at_call 33; refine (H1.out _).mono ?_; rintro e w' ⟨rfl, rfl⟩; rw [show unl false 2 = 2 from rfl])
    go_ret
    exact ⟨rfl, bAlloc (bSelf w) _⟩
  · cases b2
    · obtain rfl : r = 2 := HV.out
      clear HV
      go_enter Tryz.func53, Tryz.ntmps53
      go_wp2_with (go_at_call 33; first | (refine (H1.out _).mono ?_; rintro e w' ⟨rfl, rfl⟩; rw [show unl true 2 = 0 from rfl]) | (refine (H2.out _).mono ?_; rintro e w' ⟨rfl, rfl⟩; rw [show unl false 2 = 2 from rfl]))
      go_ret
      exact ⟨rfl, bAlloc (bSelf w) _⟩
    · by_cases h : hi < lo
      · obtain rfl : r = 9 := by rw [HV.out, if_neg (by decide), if_neg (by decide), if_pos h]
        clear HV
        go_enter Tryz.func53, Tryz.ntmps53
        go_wp2_with (go_at_call 33; first | (refine (H1.out _).mono ?_; rintro e w' ⟨rfl, rfl⟩; rw [show unl true 2 = 0 from rfl]) | (refine (H2.out _).mono ?_; rintro e w' ⟨rfl, rfl⟩; rw [show unl true 2 = 0 from rfl]))
        go_ret
        exact ⟨rfl, bAlloc (bSelf w) _⟩
      · obtain rfl : r = 0 := by rw [HV.out, if_neg (by decide), if_neg (by decide), if_neg h]
        clear HV
        go_enter Tryz.func53, Tryz.ntmps53
        go_wp2_with (go_at_call 33; first | (refine (H1.out _).mono ?_; rintro e w' ⟨rfl, rfl⟩; rw [show unl true 2 = 0 from rfl]) | (refine (H2.out _).mono ?_; rintro e w' ⟨rfl, rfl⟩; rw [show unl true 2 = 0 from rfl]))
        go_ret
        exact ⟨rfl, bAlloc (bSelf w) _⟩

end Go.Proofs.YtjfedpblkejmkaaGreat

/-
  OilSafety.
-/
namespace Go.Proofs.YtjfedpblkejmkaaGreat
open Go.RowKit
attribute [local go_sem] Oper.semAt_some

theorem opRE_val (p : Plt) (r : Int × Int) (lim : Int) : opRE p r lim = if (chP p).2 = 0 then (if rgE r = 0 then unl (wthn lim 0 1000) 2 else rgE r) else (chP p).2 := by
  unfold opRE firstE
  split
  · unfold firstE
    split
    · unfold firstE
      split
      · rename_i h; rw [h]; rfl
      · rfl
    · rfl
  · rfl
theorem sf_bad {p : Plt} {r : Int × Int} {lim : Int} {L : List OSt} (h : opRE p r lim ≠ 0) : safO p r lim = [] ∧ csR p r lim L = (0, opRE p r lim) := ⟨by unfold safO; rw [if_neg h], by unfold csR; rw [if_neg h]⟩

set_option maxHeartbeats 12800000 in
set_option maxRecDepth 100000 in
theorem OilSafety_any (p : Plt) (lo hi lim : Int) (L : List OSt) {a aL : Option Addr} {cap cL : Nat} (w : World) (_hz : p.pts.length ≤ maxLen) (hr : Reads w a (p.pts.length * 2) (fracs p.pts)) (hWL : ∀ k, k < L.length → StW (sg L k)) (hrL : Reads w aL (L.length * 2) (osts L)) :
    Calls Tryz.prog 7 #[.agg (plC p a cap), .agg #[.int .i64 lo, .int .i64 hi, .int .i64 lim], .slice aL L.length cL] w fun e w' => e = .returned (.bool true) ∧ Below w.heap.size w w' := by
  have HAW := Lib.hid (fun W => oAwake_any W)
  have HFW := Lib.hid (fun W => lFew_any p a cap W)
  have HPE := Lib.hid (fun W (h10 : p.pts.length ≤ 10) (hb : Below w.heap.size w W) => rPlantErr_any p a cap W (by omega) (hr.to hb))
  have HCP := Lib.hid (fun W (h0 : (chP p).2 = 0) (hb : Below w.heap.size w W) => rCapacity_any p a cap W (by have := (chP_ok h0).pts.two; omega) (by have := (chP_ok h0).pts.few; omega) (hr.to hb))
  have HRG := Lib.hid (fun W => rRangeErr_any lo hi W)
  have HRO := Lib.hid (fun (h : rgE (lo, hi) = 0) => (show 0 ≤ lo ∧ hi ≤ 50 ∧ lo ≤ hi from rgE_ok h))
  have HLM := Lib.hid (fun W => rLimitErr_any lim W)
  have HCPY := Lib.hid (fun W (h10 : p.pts.length ≤ 10) (hb : Below w.heap.size w W) => rCopyPlant_any p a cap W (by omega) (hr.to hb))
  have HSF := Lib.hid (fun W a1 c1 (h10 : p.pts.length ≤ 10) h1 => SafeFor_any p lo hi lim a1 c1 W (by omega) h1)
  have HCS := Lib.hid (fun W a1 c1 a2 c2 (h10 : p.pts.length ≤ 10) (hM : L.length ≤ 40) h1 h2 => CheckSafe_any p (lo, hi) lim L a1 a2 c1 c2 W (by omega) (by omega) hWL h1 h2)
  have HCL := Lib.hid (fun W (h40 : L.length ≤ 40) (hb : Below w.heap.size w W) => rCopyStates_any L aL cL W (by omega) (hrL.to hb))
  have HSR := Lib.hid (fun W (h0 : opRE p (lo, hi) lim = 0) (h40 : L.length ≤ 40) (hb : Below w.heap.size w W) => rSafeErr_any p (lo, hi) lim L a aL cap cL W h0 (by omega) (hr.to hb) (hrL.to hb))
  have HSA := Lib.hid (fun W (h0 : opRE p (lo, hi) lim = 0) (hb : Below w.heap.size w W) => rSafe_any p (lo, hi) lim a cap W h0 (hr.to hb))
  have HOV := Lib.hid (opRE_val p (lo, hi) lim)
  have HBAD := Lib.hid (fun (h : opRE p (lo, hi) lim ≠ 0) => sf_bad (L := L) h)
  have HSO : Hid (opRE p (lo, hi) lim = 0 → safO p (lo, hi) lim = safS p (lo, hi) lim) := Lib.hid (fun h => by unfold safO; rw [if_pos h])
  have HSL := Lib.hid (fun (h : opRE p (lo, hi) lim = 0) => (show (safS p (lo, hi) lim).length ≤ 402 from by
    have hp := (opRE_ok h).1
    have h1 := nodup_leS (srt_nodup (saf_srt p (lo, hi) lim)) (fun x hx => mem_allS.2 (saf_ok hx))
    rw [allS_len (by have := cap_pos hp; omega)] at h1
    have := cap_le hp
    omega))
  obtain ⟨m, hm⟩ : ∃ n, p.pts.length = n := ⟨_, rfl⟩
  obtain ⟨nL, hnL⟩ : ∃ n, L.length = n := ⟨_, rfl⟩
  obtain ⟨ch, hch⟩ : ∃ b, (chP p).2 = b := ⟨_, rfl⟩
  obtain ⟨re, hre⟩ : ∃ b, rgE (lo, hi) = b := ⟨_, rfl⟩
  obtain ⟨le, hle⟩ : ∃ b, unl (wthn lim 0 1000) 2 = b := ⟨_, rfl⟩
  obtain ⟨C, hC⟩ : ∃ b, capV p.pts = b := ⟨_, rfl⟩
  obtain ⟨oe, hoe⟩ : ∃ b, opRE p (lo, hi) lim = b := ⟨_, rfl⟩
  obtain ⟨S, hS⟩ : ∃ b, safO p (lo, hi) lim = b := ⟨_, rfl⟩
  obtain ⟨cr, hcr⟩ : ∃ b, csR p (lo, hi) lim L = b := ⟨_, rfl⟩
  have HM := Lib.hid hm
  unfold SPost at HSF
  rw [hm] at HFW HPE HCPY HSF HCS
  rw [hnL] at HCL HCS HSR ⊢
  rw [hch] at HPE HCP HOV
  rw [hre] at HRG HRO HOV
  rw [hle] at HLM HOV
  rw [hC] at HCP
  rw [hoe] at HSF HSR HSA HOV HBAD HSO HSL
  rw [hS] at HSF HBAD HSO
  rw [hcr] at HCS HSR HBAD
  clear hnL hch hre hle hC hoe hS hcr hr hrL hWL
  obtain ⟨x1, x2⟩ := cr
  unfold plC at HFW HPE HCP HCPY HSF HCS HSR HSA ⊢
  rw [hm] at HFW HPE HCP HCPY HSF HCS HSR HSA ⊢
  clear hm
  dsimp only at HCS HSR HSA
  go_enter Tryz.func7, Tryz.ntmps7
  go_wp2_with fail
  obtain ⟨W, hW⟩ : ∃ W, (w.alloc (.cells #[.slice a m cap, .int .i64 p.pump, .int .i64 p.on, .int .i64 p.off] 44)).alloc (.cells #[.int .i64 lo, .int .i64 hi, .int .i64 lim] 95) = W := ⟨_, rfl⟩
  rw [hW]
  have K3 : Hid (Blk W w.heap.size #[.slice a m cap, .int .i64 p.pump, .int .i64 p.on, .int .i64 p.off]) := by subst hW; exact Lib.hid ((Blk.new _ _ _).alloc _)
  have K4 : Hid (Blk W (w.heap.size + 1) #[.int .i64 lo, .int .i64 hi, .int .i64 lim]) := by subst hW; exact Lib.hid (Blk.newAt _ _ _ (by simp))
  have HB : Hid (Below w.heap.size w W) := by subst hW; exact Lib.hid (bAlloc (bAlloc (bSelf w) _) _)
  clear hW
  refine (HAW.out _).mono ?_
  rintro e y1 ⟨rfl, hb⟩
  replace K3 := Lib.hid (K3.out.to hb)
  replace K4 := Lib.hid (K4.out.to hb)
  replace HB := Lib.hid (bThen HB.out hb)
  clear hb HAW
  go_upto_region 3 with (fail)
  go_cut [48] from 15 to 47 (fun s48 wc => ∃ b, s48 = .bool b ∧ (b = false → m ≤ 10 ∧ nL ≤ 40) ∧ Hid (Below y1.heap.size y1 wc))
  case first =>
    have HY : Hid (Below y1.heap.size y1 y1) := Lib.hid (Below.refl _ _)
    obtain ⟨-, k3, -⟩ := K3.out
    go_wp2_with fail
    clear k3
    refine (HFW.out _).mono ?_
    rintro e y2 ⟨rfl, hb⟩
    replace K3 := Lib.hid (K3.out.to hb)
    replace K4 := Lib.hid (K4.out.to hb)
    replace HB := Lib.hid (bThen HB.out hb)
    replace HY := Lib.hid (bThen HY.out hb)
    clear hb
    by_cases h10 : m ≤ 10
    case neg =>
      rw [decide_eq_false (show ¬ ((m : Int) ≤ 10) by omega)]
      go_wp2_with fail
      go_meet
      case rel => exact ⟨true, rfl, fun h => (by cases h), HY⟩
    rw [decide_eq_true (show ((m : Int) ≤ 10) by omega)]
    by_cases hL : nL ≤ 40
    case neg =>
      have hL' : (40 : Int) < (nL : Int) := by omega
      go_wp2_with fail
      go_meet
      case rel => exact ⟨true, rfl, fun h => (by cases h), HY⟩
    obtain ⟨-, k3, -⟩ := K3.out
    go_wp2_with fail
    clear k3
    refine (HPE.out _ h10 HB.out).mono ?_
    rintro e y3 ⟨rfl, hb⟩
    replace K3 := Lib.hid (K3.out.to hb)
    replace K4 := Lib.hid (K4.out.to hb)
    replace HB := Lib.hid (bThen HB.out hb)
    replace HY := Lib.hid (bThen HY.out hb)
    clear hb
    by_cases h0 : ch = 0
    case neg =>
      have h0' : (ch == 0) = false := by simpa using h0
      go_wp2_with fail
      go_meet
      case rel => exact ⟨_, rfl, fun _ => ⟨h10, hL⟩, HY⟩
    subst h0
    obtain ⟨-, k3, -⟩ := K3.out
    go_wp2_with fail
    clear k3
    refine (HCP.out _ (by first | rfl | trivial) HB.out).mono ?_
    rintro e y4 ⟨rfl, hb⟩
    replace K3 := Lib.hid (K3.out.to hb)
    replace K4 := Lib.hid (K4.out.to hb)
    replace HB := Lib.hid (bThen HB.out hb)
    replace HY := Lib.hid (bThen HY.out hb)
    clear hb
    by_cases hC : C ≤ 15
    case neg =>
      have hC' : (15 : Int) < C := by omega
      go_wp2_with fail
      go_meet
      case rel => exact ⟨true, rfl, fun h => (by cases h), HY⟩
    obtain ⟨-, k4, -⟩ := K4.out
    go_wp2_with fail
    clear k4
    refine (HRG.out _).mono ?_
    rintro e y5 ⟨rfl, hb⟩
    replace K3 := Lib.hid (K3.out.to hb)
    replace K4 := Lib.hid (K4.out.to hb)
    replace HB := Lib.hid (bThen HB.out hb)
    replace HY := Lib.hid (bThen HY.out hb)
    clear hb
    by_cases h1 : re = 0
    case neg =>
      have h1' : (re == 0) = false := by simpa using h1
      go_wp2_with fail
      go_meet
      case rel => exact ⟨_, rfl, fun _ => ⟨h10, hL⟩, HY⟩
    subst h1
    obtain ⟨hv0, hv1, hv2⟩ := HRO.out (by first | rfl | trivial)
    obtain ⟨-, k4, -⟩ := K4.out
    by_cases h3 : hi - lo ≤ 5
    case neg =>
      have h3' : (5 : Int) < hi - lo := by omega
      go_wp2_with fail
      go_meet
      case rel => exact ⟨true, rfl, fun h => (by cases h), HY⟩
    go_wp2_with fail
    go_meet
    case rel => exact ⟨_, rfl, fun _ => ⟨h10, hL⟩, HY⟩
  obtain ⟨y6, hwo⟩ : ∃ wo, wo = wc := ⟨_, rfl⟩
  subst hwo
  obtain ⟨b, rfl, hbb, hb⟩ := hcut
  replace hb := hb.out
  replace K3 := Lib.hid (K3.out.to hb)
  replace K4 := Lib.hid (K4.out.to hb)
  replace HB := Lib.hid (bThen HB.out hb)
  clear hb HFW HCP HRO
  cases b
  case true =>
    go_wp2_with fail
    go_ret
    exact ⟨rfl, HB.out⟩
  obtain ⟨h10, hL⟩ := hbb rfl
  replace HCPY := Lib.hid (fun W => HCPY.out W h10)
  replace HPE := Lib.hid (fun W => HPE.out W h10)
  replace HCL := Lib.hid (fun W => HCL.out W hL)
  replace HSF := Lib.hid (fun W a1 c1 => HSF.out W a1 c1 h10)
  replace HCS := Lib.hid (fun W a1 c1 a2 c2 => HCS.out W a1 c1 a2 c2 h10 hL)
  replace HSR := Lib.hid (fun W h => HSR.out W h hL)
  clear hbb
  obtain ⟨nS, hnS⟩ : ∃ n, S.length = n := ⟨_, rfl⟩
  rw [hnS] at HSF
  have HNS := Lib.hid hnS
  clear hnS
  go_wp2_with fail
  refine wp_region_tree (by kernel_rfl) (fun wd hwd => ?_)
  have T := Lib.hid hwd
  clear hwd
  refine WT_yes 0 rfl (by kernel_rfl) (fun _ _ _ _ _ h => h) (by rfl) ?_; apply Exists.intro; refine ⟨fun w1 hb1 => ?_, ?_⟩; (focus (((obtain ⟨-, k3, -⟩ := K3.out.to (T.out.trans hb1)); have hb1 := Lib.hid hb1; go_simp); (try (go_bits; try go_simp)); (try (rw [if_pos (by omega)]; try go_simp)); (first | done | (fail) | (with_reducible rfl) | exact rfl)))
  simp only [Act.put, List.setIfInBounds_toArray, List.set_cons_zero, List.set_cons_succ]
  refine WT_yes 2 rfl (by kernel_rfl) (fun _ _ _ _ _ h => h) (by rfl) ?_; apply Exists.intro; refine ⟨fun w1 hb1 => ?_, ?_⟩; (focus (((obtain ⟨-, k4, -⟩ := K4.out.to (T.out.trans hb1)); have hb1 := Lib.hid hb1; go_simp); (try (go_bits; try go_simp)); (try (rw [if_pos (by omega)]; try go_simp)); (first | done | (fail) | (with_reducible rfl) | exact rfl)))
  simp only [Act.put, List.setIfInBounds_toArray, List.set_cons_zero, List.set_cons_succ]
  refine WT_yes 3 rfl (by kernel_rfl) (fun _ _ _ _ _ h => h) (by rfl) ?_; apply Exists.intro; refine ⟨fun w1 hb1 => ?_, ?_⟩; (focus (((obtain ⟨-, k4, -⟩ := K4.out.to (T.out.trans hb1)); have hb1 := Lib.hid hb1; go_simp); (try (go_bits; try go_simp)); (try (rw [if_pos (by omega)]; try go_simp)); (first | done | (fail) | (with_reducible rfl) | exact rfl)))
  simp only [Act.put, List.setIfInBounds_toArray, List.set_cons_zero, List.set_cons_succ]
  refine WT_yes 4 rfl (by kernel_rfl) (fun _ _ _ _ _ h => h) (by rfl) ?_; apply Exists.intro; refine ⟨fun w1 hb1 => ?_, ?_⟩; (focus (((obtain ⟨-, k4, -⟩ := K4.out.to (T.out.trans hb1)); have hb1 := Lib.hid hb1; go_simp); (try (go_bits; try go_simp)); (try (rw [if_pos (by omega)]; try go_simp)); (first | done | (fail) | (with_reducible rfl) | exact rfl)))
  simp only [Act.put, List.setIfInBounds_toArray, List.set_cons_zero, List.set_cons_succ]
  refine WT_yes 5 rfl (by kernel_rfl) (fun _ _ _ _ _ h => h) (by rfl) ?_; apply Exists.intro; refine ⟨fun w1 hb1 => ?_, ?_⟩; (focus (((obtain ⟨-, k4, -⟩ := K4.out.to (T.out.trans hb1)); have hb1 := Lib.hid hb1; go_simp); (try (go_bits; try go_simp)); (try (rw [if_pos (by omega)]; try go_simp)); (first | done | (fail) | (with_reducible rfl) | exact rfl)))
  simp only [Act.put, List.setIfInBounds_toArray, List.set_cons_zero, List.set_cons_succ]
  refine WT_one 1 rfl (by kernel_rfl) ?_
  unfold stepT
  go_wp2_with fail
  refine (HCPY.out _ (bThen HB.out T.out)).mono ?_
  rintro e g1 ⟨a1, c1, rfl, -, hr1, hb, -⟩
  have HR1 := Lib.hid hr1
  clear hr1
  unfold plC
  rw [HM.out] at HR1 ⊢
  have hbd := Lib.hid (hb.mono T.out.size)
  replace T := Lib.hid (bThen T.out hb)
  clear hb
  go_wp2_with fail
  refine ⟨hbd.out, ?_⟩
  clear hbd
  refine WT_one 6 rfl (by kernel_rfl) ?_
  unfold stepT
  go_wp2_with fail
  refine (HSF.out _ _ _ HR1.out).mono ?_
  rintro e g2 ⟨aS, cS, rfl, hcS, hrS, hb, -⟩
  have HRS := Lib.hid hrS
  clear hrS HR1
  have hbd := Lib.hid (hb.mono T.out.size)
  replace T := Lib.hid (bThen T.out hb)
  clear hb
  go_wp2_with fail
  refine ⟨hbd.out, ?_⟩
  clear hbd
  refine WT_yes 7 rfl (by kernel_rfl) (fun _ _ _ _ _ h => h) (by rfl) ?_; apply Exists.intro; refine ⟨fun w1 hb1 => ?_, ?_⟩; (focus ((skip; have hb1 := Lib.hid hb1; go_simp); (try (go_bits; try go_simp)); (try (rw [if_pos (by omega)]; try go_simp)); (first | done | (fail) | (with_reducible rfl) | exact rfl)))
  simp only [Act.put, List.setIfInBounds_toArray, List.set_cons_zero, List.set_cons_succ]
  refine WT_yes 8 rfl (by kernel_rfl) (fun _ _ _ _ _ h => h) (by rfl) ?_; apply Exists.intro; refine ⟨fun w1 hb1 => ?_, ?_⟩; (focus ((skip; have hb1 := Lib.hid hb1; go_simp); (try (go_bits; try go_simp)); (try (rw [if_pos (by omega)]; try go_simp)); (first | done | (fail) | (with_reducible rfl) | exact rfl)))
  simp only [Act.put, List.setIfInBounds_toArray, List.set_cons_zero, List.set_cons_succ]
  refine WT_yes 9 rfl (by kernel_rfl) (fun _ _ _ _ _ h => h) (by rfl) ?_; apply Exists.intro; refine ⟨fun w1 hb1 => ?_, ?_⟩; (focus ((skip; have hb1 := Lib.hid hb1; go_simp); (try (go_bits; try go_simp)); (try (rw [if_pos (by omega)]; try go_simp)); (first | done | (fail) | (with_reducible rfl) | exact rfl)))
  simp only [Act.put, List.setIfInBounds_toArray, List.set_cons_zero, List.set_cons_succ]
  refine WT_yes 10 rfl (by kernel_rfl) (fun _ _ _ _ _ h => h) (by rfl) ?_; apply Exists.intro; refine ⟨fun w1 hb1 => ?_, ?_⟩; (focus ((skip; have hb1 := Lib.hid hb1; go_simp); (try (go_bits; try go_simp)); (try (rw [if_pos (by omega)]; try go_simp)); (first | done | (fail) | (with_reducible rfl) | exact rfl)))
  simp only [Act.put, List.setIfInBounds_toArray, List.set_cons_zero, List.set_cons_succ]
  refine WT_yes 11 rfl (by kernel_rfl) (fun _ _ _ _ _ h => h) (by rfl) ?_; apply Exists.intro; refine ⟨fun w1 hb1 => ?_, ?_⟩; (focus ((skip; have hb1 := Lib.hid hb1; go_simp); (try (go_bits; try go_simp)); (try (rw [if_pos (by omega)]; try go_simp)); (first | done | (fail) | (with_reducible rfl) | exact rfl)))
  simp only [Act.put, List.setIfInBounds_toArray, List.set_cons_zero, List.set_cons_succ]
  refine WT_done (by kernel_rfl) ?_
  replace HB := Lib.hid (bThen HB.out T.out)
  replace K3 := Lib.hid (K3.out.to T.out)
  replace K4 := Lib.hid (K4.out.to T.out)
  clear T
  go_wp2_with fail
  refine wp_region_tree (by kernel_rfl) (fun wd hwd => ?_)
  have T := Lib.hid hwd
  clear hwd
  refine WT_yes 0 rfl (by kernel_rfl) (fun _ _ _ _ _ h => h) (by rfl) ?_; apply Exists.intro; refine ⟨fun w1 hb1 => ?_, ?_⟩; (focus (((obtain ⟨-, k3, -⟩ := K3.out.to (T.out.trans hb1)); have hb1 := Lib.hid hb1; go_simp); (try (go_bits; try go_simp)); (try (rw [if_pos (by omega)]; try go_simp)); (first | done | (fail) | (with_reducible rfl) | exact rfl)))
  simp only [Act.put, List.setIfInBounds_toArray, List.set_cons_zero, List.set_cons_succ]
  refine WT_yes 2 rfl (by kernel_rfl) (fun _ _ _ _ _ h => h) (by rfl) ?_; apply Exists.intro; refine ⟨fun w1 hb1 => ?_, ?_⟩; (focus (((obtain ⟨-, k4, -⟩ := K4.out.to (T.out.trans hb1)); have hb1 := Lib.hid hb1; go_simp); (try (go_bits; try go_simp)); (try (rw [if_pos (by omega)]; try go_simp)); (first | done | (fail) | (with_reducible rfl) | exact rfl)))
  simp only [Act.put, List.setIfInBounds_toArray, List.set_cons_zero, List.set_cons_succ]
  refine WT_yes 3 rfl (by kernel_rfl) (fun _ _ _ _ _ h => h) (by rfl) ?_; apply Exists.intro; refine ⟨fun w1 hb1 => ?_, ?_⟩; (focus (((obtain ⟨-, k4, -⟩ := K4.out.to (T.out.trans hb1)); have hb1 := Lib.hid hb1; go_simp); (try (go_bits; try go_simp)); (try (rw [if_pos (by omega)]; try go_simp)); (first | done | (fail) | (with_reducible rfl) | exact rfl)))
  simp only [Act.put, List.setIfInBounds_toArray, List.set_cons_zero, List.set_cons_succ]
  refine WT_yes 4 rfl (by kernel_rfl) (fun _ _ _ _ _ h => h) (by rfl) ?_; apply Exists.intro; refine ⟨fun w1 hb1 => ?_, ?_⟩; (focus (((obtain ⟨-, k4, -⟩ := K4.out.to (T.out.trans hb1)); have hb1 := Lib.hid hb1; go_simp); (try (go_bits; try go_simp)); (try (rw [if_pos (by omega)]; try go_simp)); (first | done | (fail) | (with_reducible rfl) | exact rfl)))
  simp only [Act.put, List.setIfInBounds_toArray, List.set_cons_zero, List.set_cons_succ]
  refine WT_yes 5 rfl (by kernel_rfl) (fun _ _ _ _ _ h => h) (by rfl) ?_; apply Exists.intro; refine ⟨fun w1 hb1 => ?_, ?_⟩; (focus (((obtain ⟨-, k4, -⟩ := K4.out.to (T.out.trans hb1)); have hb1 := Lib.hid hb1; go_simp); (try (go_bits; try go_simp)); (try (rw [if_pos (by omega)]; try go_simp)); (first | done | (fail) | (with_reducible rfl) | exact rfl)))
  simp only [Act.put, List.setIfInBounds_toArray, List.set_cons_zero, List.set_cons_succ]
  refine WT_yes 6 rfl (by kernel_rfl) (fun _ _ _ _ _ h => h) (by rfl) ?_; apply Exists.intro; refine ⟨fun w1 hb1 => ?_, ?_⟩; (focus ((skip; have hb1 := Lib.hid hb1; go_simp); (try (go_bits; try go_simp)); (try (rw [if_pos (by omega)]; try go_simp)); (first | done | (fail) | (with_reducible rfl) | exact rfl)))
  simp only [Act.put, List.setIfInBounds_toArray, List.set_cons_zero, List.set_cons_succ]
  refine WT_one 1 rfl (by kernel_rfl) ?_
  unfold stepT
  go_wp2_with fail
  refine (HCPY.out _ (bThen HB.out T.out)).mono ?_
  rintro e g3 ⟨a1, c1, rfl, -, hr1, hb, -⟩
  have HR1 := Lib.hid hr1
  clear hr1
  unfold plC
  rw [HM.out] at HR1 ⊢
  have hbd := Lib.hid (hb.mono T.out.size)
  replace T := Lib.hid (bThen T.out hb)
  clear hb
  go_wp2_with fail
  refine ⟨hbd.out, ?_⟩
  clear hbd
  refine WT_one 7 rfl (by kernel_rfl) ?_
  unfold stepT
  go_wp2_with fail
  refine (HCL.out _ (bThen HB.out T.out)).mono ?_
  rintro e g4 ⟨a2, c2, rfl, -, hr2, hb, -⟩
  have HR2 := Lib.hid hr2
  clear hr2
  replace HR1 := Lib.hid (HR1.out.to hb)
  have hbd := Lib.hid (hb.mono T.out.size)
  replace T := Lib.hid (bThen T.out hb)
  clear hb
  go_wp2_with fail
  refine ⟨hbd.out, ?_⟩
  clear hbd
  refine WT_one 8 rfl (by kernel_rfl) ?_
  unfold stepT
  go_wp2_with fail
  refine (HCS.out _ _ _ _ _ HR1.out HR2.out).mono ?_
  rintro e g5 ⟨rfl, hb⟩
  clear HR1 HR2
  have hbd := Lib.hid (hb.mono T.out.size)
  replace T := Lib.hid (bThen T.out hb)
  clear hb
  go_wp2_with fail
  refine ⟨hbd.out, ?_⟩
  clear hbd
  refine WT_yes 9 rfl (by kernel_rfl) (fun _ _ _ _ _ h => h) (by rfl) ?_; apply Exists.intro; refine ⟨fun w1 hb1 => ?_, ?_⟩; (focus ((skip; have hb1 := Lib.hid hb1; go_simp); (try (go_bits; try go_simp)); (try (rw [if_pos (by omega)]; try go_simp)); (first | done | (fail) | (with_reducible rfl) | exact rfl)))
  simp only [Act.put, List.setIfInBounds_toArray, List.set_cons_zero, List.set_cons_succ]
  refine WT_yes 10 rfl (by kernel_rfl) (fun _ _ _ _ _ h => h) (by rfl) ?_; apply Exists.intro; refine ⟨fun w1 hb1 => ?_, ?_⟩; (focus ((skip; have hb1 := Lib.hid hb1; go_simp); (try (go_bits; try go_simp)); (try (rw [if_pos (by omega)]; try go_simp)); (first | done | (fail) | (with_reducible rfl) | exact rfl)))
  simp only [Act.put, List.setIfInBounds_toArray, List.set_cons_zero, List.set_cons_succ]
  refine WT_yes 11 rfl (by kernel_rfl) (fun _ _ _ _ _ h => h) (by rfl) ?_; apply Exists.intro; refine ⟨fun w1 hb1 => ?_, ?_⟩; (focus ((skip; have hb1 := Lib.hid hb1; go_simp); (try (go_bits; try go_simp)); (try (rw [if_pos (by omega)]; try go_simp)); (first | done | (fail) | (with_reducible rfl) | exact rfl)))
  simp only [Act.put, List.setIfInBounds_toArray, List.set_cons_zero, List.set_cons_succ]
  refine WT_yes 12 rfl (by kernel_rfl) (fun _ _ _ _ _ h => h) (by rfl) ?_; apply Exists.intro; refine ⟨fun w1 hb1 => ?_, ?_⟩; (focus ((skip; have hb1 := Lib.hid hb1; go_simp); (try (go_bits; try go_simp)); (try (rw [if_pos (by omega)]; try go_simp)); (first | done | (fail) | (with_reducible rfl) | exact rfl)))
  simp only [Act.put, List.setIfInBounds_toArray, List.set_cons_zero, List.set_cons_succ]
  refine WT_yes 13 rfl (by kernel_rfl) (fun _ _ _ _ _ h => h) (by rfl) ?_; apply Exists.intro; refine ⟨fun w1 hb1 => ?_, ?_⟩; (focus ((skip; have hb1 := Lib.hid hb1; go_simp); (try (go_bits; try go_simp)); (try (rw [if_pos (by omega)]; try go_simp)); (first | done | (fail) | (with_reducible rfl) | exact rfl)))
  simp only [Act.put, List.setIfInBounds_toArray, List.set_cons_zero, List.set_cons_succ]
  refine WT_done (by kernel_rfl) ?_
  replace HB := Lib.hid (bThen HB.out T.out)
  replace K3 := Lib.hid (K3.out.to T.out)
  replace K4 := Lib.hid (K4.out.to T.out)
  replace HRS := Lib.hid (HRS.out.to T.out)
  clear T
  clear HSF HCS HCL HCPY
  obtain ⟨-, k3, -⟩ := K3.out
  go_wp2_with fail
  clear k3
  refine (HPE.out _ HB.out).mono ?_
  rintro e y7 ⟨rfl, hb⟩
  replace K3 := Lib.hid (K3.out.to hb)
  replace K4 := Lib.hid (K4.out.to hb)
  replace HB := Lib.hid (bThen HB.out hb)
  replace HRS := Lib.hid (HRS.out.to hb)
  clear hb HPE
  by_cases h0 : ch = 0
  case neg =>
    have hoe : oe = ch := by
      have := HOV.out
      simpa [h0] using this
    subst hoe
    obtain ⟨e1, e2⟩ := HBAD.out (by assumption)
    cases e2
    obtain rfl : nS = 0 := by rw [← HNS.out, e1]; rfl
    have h0' : (oe == 0) = false := by simpa using h0
    have h0'' : (oe != 0) = true := by simpa using h0
    go_wp2_with fail
    go_ret
    exact ⟨rfl, HB.out⟩
  subst h0
  obtain ⟨-, k4, -⟩ := K4.out
  go_wp2_with fail
  clear k4
  refine (HRG.out _).mono ?_
  rintro e y8 ⟨rfl, hb⟩
  replace K3 := Lib.hid (K3.out.to hb)
  replace K4 := Lib.hid (K4.out.to hb)
  replace HB := Lib.hid (bThen HB.out hb)
  replace HRS := Lib.hid (HRS.out.to hb)
  clear hb HRG
  by_cases h1 : re = 0
  case neg =>
    have hoe : oe = re := by
      have := HOV.out
      simpa [h1] using this
    subst hoe
    obtain ⟨e1, e2⟩ := HBAD.out (by assumption)
    cases e2
    obtain rfl : nS = 0 := by rw [← HNS.out, e1]; rfl
    have h0' : (oe == 0) = false := by simpa using h1
    have h0'' : (oe != 0) = true := by simpa using h1
    go_wp2_with fail
    go_ret
    exact ⟨rfl, HB.out⟩
  subst h1
  obtain ⟨-, k4, -⟩ := K4.out
  go_wp2_with fail
  clear k4
  refine (HLM.out _).mono ?_
  rintro e w' ⟨rfl, rfl⟩
  clear HLM
  by_cases h2 : le = 0
  case neg =>
    have hoe : oe = le := by
      have := HOV.out
      simpa [h2] using this
    subst hoe
    obtain ⟨e1, e2⟩ := HBAD.out (by assumption)
    cases e2
    obtain rfl : nS = 0 := by rw [← HNS.out, e1]; rfl
    have h0'' : (oe != 0) = true := by simpa using h2
    go_wp2_with fail
    go_ret
    exact ⟨rfl, HB.out⟩
  subst h2
  have hoe : oe = 0 := by
    have := HOV.out
    simpa using this
  subst hoe
  have hSS := HSO.out (by first | rfl | trivial)
  have hSL := HSL.out (by first | rfl | trivial)
  rw [← hSS] at hSL
  have HSS := Lib.hid hSS
  replace HSR := Lib.hid (fun W => HSR.out W (by first | rfl | trivial))
  replace HSA := Lib.hid (fun W => HSA.out W (by first | rfl | trivial))
  rw [← HSS.out] at HSA
  unfold SfPost at HSA
  rw [HNS.out] at HSA
  have hnS : nS ≤ 402 := by have := HNS.out; omega
  have HEQ := Lib.hid (fun W a1 c1 a2 c2 h1 h2 => SameStates_any S S a1 a2 c1 c2 W (by have := HNS.out; unfold maxLen; omega) h1 h2)
  rw [HNS.out, decide_eq_true rfl] at HEQ
  clear hSS hSL HSO HSL HBAD HOV
  obtain ⟨-, k3, -⟩ := K3.out
  obtain ⟨-, k4, -⟩ := K4.out
  go_wp2_with fail
  clear k3 k4
  refine (HSR.out _ HB.out).mono ?_
  rintro e y9 ⟨rfl, hb⟩
  replace K3 := Lib.hid (K3.out.to hb)
  replace K4 := Lib.hid (K4.out.to hb)
  replace HB := Lib.hid (bThen HB.out hb)
  replace HRS := Lib.hid (HRS.out.to hb)
  clear hb HSR
  obtain ⟨-, k3, -⟩ := K3.out
  obtain ⟨-, k4, -⟩ := K4.out
  go_wp2_with fail
  clear k3 k4
  refine (HSA.out _ HB.out).mono ?_
  rintro e ya ⟨aT, cT, rfl, hrT, hb⟩
  have HRT := Lib.hid hrT
  replace K3 := Lib.hid (K3.out.to hb)
  replace K4 := Lib.hid (K4.out.to hb)
  replace HB := Lib.hid (bThen HB.out hb)
  replace HRS := Lib.hid (HRS.out.to hb)
  clear hb hrT HSA
  go_wp2_with fail
  refine (HEQ.out _ _ _ _ _ HRS.out HRT.out).mono ?_
  rintro e yb ⟨rfl, hb⟩
  replace HB := Lib.hid (bThen HB.out hb)
  clear hb
  go_wp2_with fail
  go_ret
  exact ⟨rfl, HB.out⟩

end Go.Proofs.YtjfedpblkejmkaaGreat

