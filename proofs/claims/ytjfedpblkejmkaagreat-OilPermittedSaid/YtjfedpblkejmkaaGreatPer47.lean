/-
  Texts of this claim, in their build order: OR19.
-/
import Derived.Test.YtjfedpblkejmkaaGreatPer46
import Derived.Test.YtjfedpblkejmkaaGreatPer18
import Derived.Test.YtjfedpblkejmkaaGreatPer0

namespace Go.Proofs.YtjfedpblkejmkaaGreat
open Go.RowKit
attribute [local go_sem] Oper.semAt_some

set_option maxHeartbeats 800000 in
set_option maxRecDepth 100000 in
theorem rLess_any (a b : OSt) (w : World) :
    Calls Tryz.prog 130 #[.agg #[.int .i64 a.1, .bool a.2], .agg #[.int .i64 b.1, .bool b.2]] w fun e w' => e = .returned (.bool (ltS a b)) ∧ Below w.heap.size w w' := by
  obtain ⟨a1, a2⟩ := a
  obtain ⟨b1, b2⟩ := b
  unfold ltS
  dsimp only
  by_cases h1 : a1 < b1
  · rw [decide_eq_true h1, Bool.true_or]
    go_enter Tryz.func130, Tryz.ntmps130
    go_wp2_with fail
    go_ret
    exact ⟨rfl, bAlloc (bAlloc (bSelf w) _) _⟩
  · rw [decide_eq_false h1, Bool.false_or]
    by_cases h2 : a1 = b1
    · subst h2
      cases a2 <;> cases b2
      all_goals
        go_enter Tryz.func130, Tryz.ntmps130
        go_wp2_with fail
        go_ret
        exact ⟨ret_bool (by simp), bAlloc (bAlloc (bSelf w) _) _⟩
    · have h3 : (a1 == b1) = false := by simpa using h2
      rw [h3, Bool.false_and, Bool.false_and]
      have h4 : b1 < a1 := by omega
      go_enter Tryz.func130, Tryz.ntmps130
      go_wp2_with fail
      go_ret
      exact ⟨rfl, bAlloc (bAlloc (bSelf w) _) _⟩

/-- What stands at the head of a round of put. -/
structure PutI (l : List OSt) (s : OSt) (k : Nat) (dn : Bool) (out : List OSt) : Prop where
  eq : putS l s = out ++ (if dn = true then l.drop k else putS (l.drop k) s)
  no : dn = true → ∀ j, k ≤ j → j < l.length → sg l j ≠ s
  at' : dn = false → out = l.take k
  le : out.length ≤ k + 1
theorem drop_sg {l : List OSt} {k : Nat} (h : k < l.length) : l.drop k = sg l k :: l.drop (k + 1) := by
  rw [List.drop_eq_getElem_cons h]
  unfold sg
  rw [List.getD_eq_getElem?_getD, List.getElem?_eq_getElem h]
  rfl
theorem PutI.start (l : List OSt) (s : OSt) : PutI l s 0 false [] := ⟨rfl, fun h => (by cases h), fun _ => rfl, Nat.zero_le _⟩
theorem putS_cons (x : OSt) (l : List OSt) (s : OSt) : putS (x :: l) s = if x = s then x :: l else if ltS s x then s :: x :: l else x :: putS l s := rfl
theorem srt_lt {l : List OSt} (h : SrtS l) {i j : Nat} (hij : i < j) (hj : j < l.length) : ltS (sg l i) (sg l j) = true := by
  have := (List.pairwise_iff_getElem.1 h) i j (by omega) hj hij
  unfold sg
  rw [List.getD_eq_getElem?_getD, List.getD_eq_getElem?_getD, List.getElem?_eq_getElem (by omega : i < l.length), List.getElem?_eq_getElem hj]
  exact this
/-- The state stands there. -/
theorem PutI.found {l : List OSt} {s : OSt} {k : Nat} {dn : Bool} {out : List OSt} (h : PutI l s k dn out) (hk : k < l.length) (e : sg l k = s) : putS l s = l := by
  cases dn with
  | true => exact absurd e (h.no rfl k (Nat.le_refl _) hk)
  | false =>
    rw [h.eq, h.at' rfl, if_neg (by decide), drop_sg hk]
    rw [putS_cons, if_pos e, ← drop_sg hk, List.take_append_drop]
/-- It is laid in ahead of the next one. -/
theorem PutI.lay {l : List OSt} {s : OSt} {k : Nat} {out : List OSt} (h : PutI l s k false out) (hs : SrtS l) (hk : k < l.length) (e : sg l k ≠ s) (hl : ltS s (sg l k) = true) : PutI l s (k + 1) true (out ++ [s] ++ [sg l k]) := by
  refine ⟨?_, fun _ j hj hjl e2 => ?_, fun h => (by cases h), ?_⟩
  · rw [h.eq, if_neg (by decide), if_pos rfl, drop_sg hk]
    rw [putS_cons, if_neg e, if_pos hl]
    simp
  · have h1 := srt_lt hs (show k < j by omega) hjl
    rw [e2] at h1
    have h2 := ltS_asym h1
    rw [h2] at hl
    cases hl
  · have h1 := h.at' rfl
    subst h1
    simp only [List.length_append, List.length_take, List.length_cons, List.length_nil]
    omega
/-- The next one alone. -/
theorem PutI.go {l : List OSt} {s : OSt} {k : Nat} {dn : Bool} {out : List OSt} (h : PutI l s k dn out) (hk : k < l.length) (e : sg l k ≠ s) (hl : dn = true ∨ ltS s (sg l k) = false) : PutI l s (k + 1) dn (out ++ [sg l k]) := by
  cases dn with
  | true =>
    refine ⟨?_, fun _ j hj hjl => h.no rfl j (by omega) hjl, fun h => (by cases h), by have := h.le; simp; omega⟩
    rw [h.eq, if_pos rfl, if_pos rfl, drop_sg hk]
    simp
  | false =>
    have hl' : ltS s (sg l k) = false := hl.resolve_left (by decide)
    refine ⟨?_, fun h => (by cases h), fun _ => ?_, by have := h.le; simp; omega⟩
    · rw [h.eq, if_neg (by decide), if_neg (by decide), drop_sg hk]
      rw [putS_cons, if_neg e, if_neg (by rw [hl']; decide)]
      simp
    · rw [h.at' rfl, sg_take hk]
/-- All done. -/
theorem PutI.fin {l : List OSt} {s : OSt} {dn : Bool} {out : List OSt} (h : PutI l s l.length dn out) : putS l s = if dn = true then out else out ++ [s] := by
  rw [h.eq, List.drop_length]
  cases dn with
  | true => simp
  | false => rfl

def PutPost (l : List OSt) (s : OSt) (w : World) (e : Ending) (w' : World) : Prop :=
  ∃ a' c', e = .returned (.slice a' (putS l s).length c') ∧ (putS l s).length ≤ c' ∧ Reads w' a' ((putS l s).length * 2) (osts (putS l s)) ∧ Below w.heap.size w w'
theorem scells_snoc (l : List OSt) (s : OSt) : scells (l ++ [s]) = scells l ++ [.int .i64 s.1, .bool s.2] := by
  unfold scells
  rw [List.flatMap_append]
  rfl

set_option maxHeartbeats 6400000 in
set_option maxRecDepth 100000 in
theorem rPut_any (l : List OSt) (s : OSt) (a : Option Addr) (cap : Nat) (w : World) (hlen : l.length ≤ 100000) (hcap : l.length ≤ cap) (hs : SrtS l) (hr : Reads w a (l.length * 2) (osts l)) :
    Calls Tryz.prog 171 #[.slice a l.length cap, .agg #[.int .i64 s.1, .bool s.2]] w (PutPost l s w) := by
  have HA := zH hr
  have HS := zH hs
  have HFD := zH (fun k dn out (h : PutI l s k dn out) hk e => h.found hk e)
  have HLY := zH (fun k out (h : PutI l s k false out) hk e hl => h.lay hs hk e hl)
  have HGO := zH (fun k dn out (h : PutI l s k dn out) hk e hl => h.go hk e hl)
  have HFN := zH (fun dn out (h : PutI l s l.length dn out) => h.fin)
  have HST := zH (PutI.start l s)
  obtain ⟨n, hn⟩ : ∃ n, l.length = n := ⟨_, rfl⟩
  have HN := zH hn
  rw [hn] at HA HFD HLY HGO HFN hlen hcap ⊢
  clear hr hs hn
  obtain ⟨s1, s2⟩ := s
  dsimp only
  go_enter Tryz.func171, Tryz.ntmps171
  go_wp2_with fail
  obtain ⟨W, hW⟩ : ∃ W, w.alloc (.cells #[.int .i64 s1, .bool s2] 46) = W := ⟨_, rfl⟩
  rw [hW]
  have K3 : Hid (Blk W w.heap.size #[.int .i64 s1, .bool s2]) := by subst hW; exact zH (Blk.new _ _ _)
  have HB : Hid (Below w.heap.size w W) := by subst hW; exact zH (bAlloc (bSelf w) _)
  replace HA := zH (HA.out.to HB.out)
  clear hW
  go_loopw [5, 6, 7] (fun s5 s6 s7 wr => ∃ (k : Nat) (va : Option Addr) (vc : Nat) (dn : Bool) (out : List OSt), s5 = .slice va out.length vc ∧ s6 = .bool dn ∧ s7 = .int .i64 k ∧ k ≤ n ∧ Hid (PutI l (s1, s2) k dn out) ∧ Hid (wr.ownsRow W.heap.size 46 2 (.slice va out.length vc) out.length (scells out)) ∧ Hid (Below W.heap.size W wr)) (fun _ _ s7 _ => n - (intOf s7).toNat)
  case atStart => exact ⟨0, none, 0, false, [], rfl, rfl, rfl, Nat.zero_le _, HST, zH ⟨by simp [scells], .inl ⟨rfl, rfl⟩⟩, zH (bSelf W)⟩
  case round =>
    obtain ⟨k, va, vc, dn, out, rfl, rfl, rfl, hk, HP, HO, HR0⟩ := hrel
    have hol := HP.out.le
    obtain ⟨m, hm⟩ : ∃ m, out.length = m := ⟨_, rfl⟩
    have HM := zH hm
    rw [hm] at HO hol ⊢
    clear hm
    obtain ⟨-, k3, -⟩ := K3.out.to HR0.out
    by_cases hlt : k < n
    · obtain ⟨ba, oa, rfl, hba, hca⟩ := HA.out.at (k := k * 2) (by omega)
      obtain ⟨⟨n1, d1⟩, hz⟩ : ∃ q, sg l k = q := ⟨_, rfl⟩
      have h1 : Hid (W.cell? ⟨ba, oa + k * 2, none⟩ = some (.int .i64 n1)) := zH (by rw [hca _ (by omega), osts0, hz])
      have h2 : Hid (W.cell? ⟨ba, oa + k * 2 + 1, none⟩ = some (.bool d1)) := zH (by rw [Nat.add_assoc, hca _ (by omega), osts1, hz])
      have HFK := zH (fun e => HFD.out k dn out HP.out hlt e)
      have HGK := zH (fun e hl => HGO.out k dn out HP.out hlt e hl)
      have HLK := zH (fun (hd : dn = false) e hl => HLY.out k out (by subst hd; exact HP.out) hlt e hl)
      rw [hz] at HFK HGK HLK
      clear hca hz HFD HGO HFN HST HLY
      by_cases he : (n1, d1) = (s1, s2)
      · cases he
        have hput := HFK.out rfl
        go_wp2_with fail
        clear k3
        refine wp_region_quiet_all (fun w' => Below (World.heap wr).size (wr) w') (by kernel_rfl) (by kernel_rfl) (Below.refl _ _).drew ?_
        refine WQ.out ?_
        repeat (first | (refine WQ_no (by rfl) ?_; (simp only [Act.put, zzT, zzO, zzS])) | (refine WQ_yes (by rfl) ?_; apply Exists.intro; refine ⟨fun w1 hb1 => ?_, ?_⟩; (focus (((have k1 := ((HR0.out.trans (hb1.mono HR0.out.size)).cell (p := ⟨ba, oa + k * 2, none⟩) hba).trans h1.out; have k2 := ((HR0.out.trans (hb1.mono HR0.out.size)).cell (p := ⟨ba, oa + k * 2 + 1, none⟩) hba).trans h2.out; obtain ⟨-, k3, -⟩ := K3.out.to (HR0.out.trans (hb1.mono HR0.out.size))); have hb1 := zH hb1; go_simp); (try (go_bits; try go_simp)); (try (rw [if_pos (by omega)]; try go_simp)); (first | done | (with_reducible rfl) | exact rfl))); (simp only [Act.put, zzT, zzO, zzS])))
        refine WQ_nil ?_
        intro w1 hb1
        have HB1 := zH (HR0.out.trans (hb1.mono HR0.out.size))
        clear hb1
        go_wp2_with fail
        go_ret
        refine ⟨some ⟨ba, oa, none⟩, cap, ?_, ?_, ?_, bThen HB.out HB1.out⟩
        · rw [hput, HN.out]; rfl
        · rw [hput, HN.out]; exact hcap
        · rw [hput, HN.out]; exact HA.out.to HB1.out
      · have HE := zH he
        have hcs : (¬ n1 = s1) ∨ (n1 = s1 ∧ ¬ d1 = s2) := by
          by_cases h : n1 = s1
          · exact .inr ⟨h, fun h2 => he (by rw [h, h2])⟩
          · exact .inl h
        clear he HFK
        replace HGK := zH (fun hl => HGK.out HE.out hl)
        replace HLK := zH (fun hd hl => HLK.out hd HE.out hl)
        have HLS := zH (fun W => rLess_any (s1, s2) (n1, d1) W)
        obtain ⟨lt, hlt'⟩ : ∃ b, ltS (s1, s2) (n1, d1) = b := ⟨_, rfl⟩
        rw [hlt'] at HLS HGK HLK
        dsimp only at HLS
        clear hlt' HE
        rcases hcs with hn | ⟨rfl, hn⟩
        · go_wp2_with fail
          clear k3
          refine wp_region_quiet_all (fun w' => Below (World.heap wr).size (wr) w') (by kernel_rfl) (by kernel_rfl) (Below.refl _ _).drew ?_
          refine WQ.out ?_
          repeat (first | (refine WQ_no (by rfl) ?_; (simp only [Act.put, zzT, zzO, zzS])) | (refine WQ_yes (by rfl) ?_; apply Exists.intro; refine ⟨fun w1 hb1 => ?_, ?_⟩; (focus (((have k1 := ((HR0.out.trans (hb1.mono HR0.out.size)).cell (p := ⟨ba, oa + k * 2, none⟩) hba).trans h1.out; have k2 := ((HR0.out.trans (hb1.mono HR0.out.size)).cell (p := ⟨ba, oa + k * 2 + 1, none⟩) hba).trans h2.out; obtain ⟨-, k3, -⟩ := K3.out.to (HR0.out.trans (hb1.mono HR0.out.size))); have hb1 := zH hb1; go_simp); (try (go_bits; try go_simp)); (try (rw [if_pos (by omega)]; try go_simp)); (first | done | (with_reducible rfl) | exact rfl))); (simp only [Act.put, zzT, zzO, zzS])))
          refine WQ_nil ?_
          intro w1 hb1
          have HOw := zH (owns_to HO.out hb1)
          replace HR0 := zH (HR0.out.trans (hb1.mono HR0.out.size))
          clear hb1 HO
          go_wp2_with fail
          cases dn
          · cases lt
            · obtain ⟨wx, hwx⟩ : ∃ x, x = w1 := ⟨_, rfl⟩
              subst hwx
              refine wp_region_quiet_all (fun w' => Below (World.heap wx).size (wx) w') (by kernel_rfl) (by kernel_rfl) (Below.refl _ _).drew ?_
              refine WQ.out ?_
              repeat (first | (refine WQ_no (by rfl) ?_; (simp only [Act.put, zzT, zzO, zzS])) | (refine WQ_yes (by rfl) ?_; apply Exists.intro; refine ⟨fun w1 hb1 => ?_, ?_⟩; (focus (((have k1 := ((HR0.out.trans (hb1.mono HR0.out.size)).cell (p := ⟨ba, oa + k * 2, none⟩) hba).trans h1.out; have k2 := ((HR0.out.trans (hb1.mono HR0.out.size)).cell (p := ⟨ba, oa + k * 2 + 1, none⟩) hba).trans h2.out; obtain ⟨-, k3, -⟩ := K3.out.to (HR0.out.trans (hb1.mono HR0.out.size))); have hb1 := zH hb1; go_simp); (try (go_bits; try go_simp)); (try (rw [if_pos (by omega)]; try go_simp)); (first | done | ((go_at_call 130; refine (HLS.out _).mono ?_; rintro e w' ⟨rfl, hb⟩; exact ⟨rfl, bThen hb1.out hb⟩)) | (with_reducible rfl) | exact rfl))); (simp only [Act.put, zzT, zzO, zzS])))
              refine WQ_nil ?_
              intro w1 hb1
              replace HOw := zH (owns_to HOw.out hb1)
              have HRw := zH (HR0.out.trans (hb1.mono HR0.out.size))
              clear hb1 HR0 HLS
              have HPN := zH (HGK.out (.inr rfl))
              clear HGK HLK
              have HROW := zH (HOw.out.alloc (.cells #[.int .i64 n1, .bool d1] 46))
              have HNN := zH (Blk.new w1 #[.int .i64 n1, .bool d1] 46).news
              have hlo := zH HOw.out.lt
              have hsw : W.heap.size ≤ w1.heap.size := HRw.out.size
              have k1 := (HRw.out.cell (p := ⟨ba, oa + k * 2, none⟩) hba).trans h1.out
              have k2 := (HRw.out.cell (p := ⟨ba, oa + k * 2 + 1, none⟩) hba).trans h2.out
              obtain ⟨-, k3, -⟩ := K3.out.to HRw.out
              go_wp2_with (at_builtin; go_loud (refine wpList_app W.heap.size rtSt rfl (.tmp 35) (.tmp 40) rfl _ m _ rfl HROW.out ⟨w1.heap.size, 0, none⟩ 1 1 [.int .i64 n1, .bool d1] rfl rfl (by simpa using HNN.out) (onesS [(n1, d1)]) (by unfold maxLen; omega) (by omega) (by simp; omega) ?_; intro v' w7 hown' hgrow _ hwhere; obtain ⟨va', vc', rfl⟩ := ownsRow_sl hown'; have HO7 := zH hown'; have HG7 := zH hgrow; clear hown' hgrow hwhere k1 k2 k3))
              have HRn : Hid (Below W.heap.size W w7) := zH (HRw.out.trans (((Below.refl _ _).alloc hsw _).grown HG7.out (by simp; omega) (fun k e => (hlo.out k e).1)))
              go_roundw
              case rel => exact ⟨k + 1, va', vc', false, out ++ [(n1, d1)], by rw [show (out ++ [(n1, d1)]).length = m + 1 by rw [List.length_append, HM.out]; rfl], rfl, by go_num, by omega, zH HPN.out, zH (by rw [show (out ++ [(n1, d1)]).length = m + 1 by rw [List.length_append, HM.out]; rfl, scells_snoc]; exact HO7.out), HRn⟩
              case measure => simp [intOf]; omega
            · obtain ⟨wx, hwx⟩ : ∃ x, x = w1 := ⟨_, rfl⟩
              subst hwx
              refine wp_region_quiet_all (fun w' => Below (World.heap wx).size (wx) w') (by kernel_rfl) (by kernel_rfl) (Below.refl _ _).drew ?_
              refine WQ.out ?_
              repeat (first | (refine WQ_no (by rfl) ?_; (simp only [Act.put, zzT, zzO, zzS])) | (refine WQ_yes (by rfl) ?_; apply Exists.intro; refine ⟨fun w1 hb1 => ?_, ?_⟩; (focus (((have k1 := ((HR0.out.trans (hb1.mono HR0.out.size)).cell (p := ⟨ba, oa + k * 2, none⟩) hba).trans h1.out; have k2 := ((HR0.out.trans (hb1.mono HR0.out.size)).cell (p := ⟨ba, oa + k * 2 + 1, none⟩) hba).trans h2.out; obtain ⟨-, k3, -⟩ := K3.out.to (HR0.out.trans (hb1.mono HR0.out.size))); have hb1 := zH hb1; go_simp); (try (go_bits; try go_simp)); (try (rw [if_pos (by omega)]; try go_simp)); (first | done | ((go_at_call 130; refine (HLS.out _).mono ?_; rintro e w' ⟨rfl, hb⟩; exact ⟨rfl, bThen hb1.out hb⟩)) | (with_reducible rfl) | exact rfl))); (simp only [Act.put, zzT, zzO, zzS])))
              refine WQ_nil ?_
              intro w1 hb1
              replace HOw := zH (owns_to HOw.out hb1)
              have HRw := zH (HR0.out.trans (hb1.mono HR0.out.size))
              clear hb1 HR0 HLS
              have HPN := zH (HLK.out rfl rfl)
              clear HGK HLK
              have HROW := zH (HOw.out.alloc (.cells #[.int .i64 s1, .bool s2] 46))
              have HNN := zH (Blk.new w1 #[.int .i64 s1, .bool s2] 46).news
              have hlo := zH HOw.out.lt
              have hsw : W.heap.size ≤ w1.heap.size := HRw.out.size
              have k1 := (HRw.out.cell (p := ⟨ba, oa + k * 2, none⟩) hba).trans h1.out
              have k2 := (HRw.out.cell (p := ⟨ba, oa + k * 2 + 1, none⟩) hba).trans h2.out
              obtain ⟨-, k3, -⟩ := K3.out.to HRw.out
              go_upto_region 10 with (at_builtin; go_loud (refine wpList_app W.heap.size rtSt rfl (.tmp 31) (.tmp 33) rfl _ m _ rfl HROW.out ⟨w1.heap.size, 0, none⟩ 1 1 [.int .i64 s1, .bool s2] rfl rfl (by simpa using HNN.out) (onesS [(s1, s2)]) (by unfold maxLen; omega) (by omega) (by simp; omega) ?_; intro v' w6 hown' hgrow _ hwhere; obtain ⟨va', vc', rfl⟩ := ownsRow_sl hown'; have HO7 := zH hown'; have HG7 := zH hgrow; clear hown' hgrow hwhere k1 k2 k3))
              have HR6 : Hid (Below W.heap.size W w6) := zH (HRw.out.trans (((Below.refl _ _).alloc hsw _).grown HG7.out (by simp; omega) (fun k e => (hlo.out k e).1)))
              have HO6 := zH HO7.out
              replace HRw := zH HR6.out
              clear HR6 HROW HNN hlo hsw HOw HG7 HO7
              have HROW := zH (HO6.out.alloc (.cells #[.int .i64 n1, .bool d1] 46))
              have HNN := zH (Blk.new w6 #[.int .i64 n1, .bool d1] 46).news
              have hlo := zH HO6.out.lt
              have hsw : W.heap.size ≤ w6.heap.size := HRw.out.size
              have k1 := (HRw.out.cell (p := ⟨ba, oa + k * 2, none⟩) hba).trans h1.out
              have k2 := (HRw.out.cell (p := ⟨ba, oa + k * 2 + 1, none⟩) hba).trans h2.out
              obtain ⟨-, k3, -⟩ := K3.out.to HRw.out
              go_wp2_with (at_builtin; go_loud (refine wpList_app W.heap.size rtSt rfl (.tmp 35) (.tmp 40) rfl _ (m + 1) _ rfl HROW.out ⟨w6.heap.size, 0, none⟩ 1 1 [.int .i64 n1, .bool d1] rfl rfl (by simpa using HNN.out) (onesS [(n1, d1)]) (by unfold maxLen; omega) (by omega) (by simp; omega) ?_; intro v' w7 hown' hgrow _ hwhere; obtain ⟨va', vc', rfl⟩ := ownsRow_sl hown'; have HO7 := zH hown'; have HG7 := zH hgrow; clear hown' hgrow hwhere k1 k2 k3))
              have HRn : Hid (Below W.heap.size W w7) := zH (HRw.out.trans (((Below.refl _ _).alloc hsw _).grown HG7.out (by simp; omega) (fun k e => (hlo.out k e).1)))
              go_roundw
              case rel => exact ⟨k + 1, va', vc', true, out ++ [(s1, s2)] ++ [(n1, d1)], by rw [show (out ++ [(s1, s2)] ++ [(n1, d1)]).length = m + 1 + 1 by rw [List.length_append, List.length_append, HM.out]; rfl], rfl, by go_num, by omega, zH HPN.out, zH (by rw [show (out ++ [(s1, s2)] ++ [(n1, d1)]).length = m + 1 + 1 by rw [List.length_append, List.length_append, HM.out]; rfl, scells_snoc, scells_snoc]; exact HO7.out), HRn⟩
              case measure => simp [intOf]; omega
          · obtain ⟨wx, hwx⟩ : ∃ x, x = w1 := ⟨_, rfl⟩
            subst hwx
            refine wp_region_quiet_all (fun w' => Below (World.heap wx).size (wx) w') (by kernel_rfl) (by kernel_rfl) (Below.refl _ _).drew ?_
            refine WQ.out ?_
            repeat (first | (refine WQ_no (by rfl) ?_; (simp only [Act.put, zzT, zzO, zzS])) | (refine WQ_yes (by rfl) ?_; apply Exists.intro; refine ⟨fun w1 hb1 => ?_, ?_⟩; (focus (((have k1 := ((HR0.out.trans (hb1.mono HR0.out.size)).cell (p := ⟨ba, oa + k * 2, none⟩) hba).trans h1.out; have k2 := ((HR0.out.trans (hb1.mono HR0.out.size)).cell (p := ⟨ba, oa + k * 2 + 1, none⟩) hba).trans h2.out; obtain ⟨-, k3, -⟩ := K3.out.to (HR0.out.trans (hb1.mono HR0.out.size))); have hb1 := zH hb1; go_simp); (try (go_bits; try go_simp)); (try (rw [if_pos (by omega)]; try go_simp)); (first | done | (with_reducible rfl) | exact rfl))); (simp only [Act.put, zzT, zzO, zzS])))
            refine WQ_nil ?_
            intro w1 hb1
            replace HOw := zH (owns_to HOw.out hb1)
            have HRw := zH (HR0.out.trans (hb1.mono HR0.out.size))
            clear hb1 HR0 HLS
            have HPN := zH (HGK.out (.inl rfl))
            clear HGK HLK
            have HROW := zH (HOw.out.alloc (.cells #[.int .i64 n1, .bool d1] 46))
            have HNN := zH (Blk.new w1 #[.int .i64 n1, .bool d1] 46).news
            have hlo := zH HOw.out.lt
            have hsw : W.heap.size ≤ w1.heap.size := HRw.out.size
            have k1 := (HRw.out.cell (p := ⟨ba, oa + k * 2, none⟩) hba).trans h1.out
            have k2 := (HRw.out.cell (p := ⟨ba, oa + k * 2 + 1, none⟩) hba).trans h2.out
            obtain ⟨-, k3, -⟩ := K3.out.to HRw.out
            go_wp2_with (at_builtin; go_loud (refine wpList_app W.heap.size rtSt rfl (.tmp 35) (.tmp 40) rfl _ m _ rfl HROW.out ⟨w1.heap.size, 0, none⟩ 1 1 [.int .i64 n1, .bool d1] rfl rfl (by simpa using HNN.out) (onesS [(n1, d1)]) (by unfold maxLen; omega) (by omega) (by simp; omega) ?_; intro v' w7 hown' hgrow _ hwhere; obtain ⟨va', vc', rfl⟩ := ownsRow_sl hown'; have HO7 := zH hown'; have HG7 := zH hgrow; clear hown' hgrow hwhere k1 k2 k3))
            have HRn : Hid (Below W.heap.size W w7) := zH (HRw.out.trans (((Below.refl _ _).alloc hsw _).grown HG7.out (by simp; omega) (fun k e => (hlo.out k e).1)))
            go_roundw
            case rel => exact ⟨k + 1, va', vc', true, out ++ [(n1, d1)], by rw [show (out ++ [(n1, d1)]).length = m + 1 by rw [List.length_append, HM.out]; rfl], rfl, by go_num, by omega, zH HPN.out, zH (by rw [show (out ++ [(n1, d1)]).length = m + 1 by rw [List.length_append, HM.out]; rfl, scells_snoc]; exact HO7.out), HRn⟩
            case measure => simp [intOf]; omega
        · go_wp2_with fail
          clear k3
          refine wp_region_quiet_all (fun w' => Below (World.heap wr).size (wr) w') (by kernel_rfl) (by kernel_rfl) (Below.refl _ _).drew ?_
          refine WQ.out ?_
          repeat (first | (refine WQ_no (by rfl) ?_; (simp only [Act.put, zzT, zzO, zzS])) | (refine WQ_yes (by rfl) ?_; apply Exists.intro; refine ⟨fun w1 hb1 => ?_, ?_⟩; (focus (((have k1 := ((HR0.out.trans (hb1.mono HR0.out.size)).cell (p := ⟨ba, oa + k * 2, none⟩) hba).trans h1.out; have k2 := ((HR0.out.trans (hb1.mono HR0.out.size)).cell (p := ⟨ba, oa + k * 2 + 1, none⟩) hba).trans h2.out; obtain ⟨-, k3, -⟩ := K3.out.to (HR0.out.trans (hb1.mono HR0.out.size))); have hb1 := zH hb1; go_simp); (try (go_bits; try go_simp)); (try (rw [if_pos (by omega)]; try go_simp)); (first | done | (with_reducible rfl) | exact rfl))); (simp only [Act.put, zzT, zzO, zzS])))
          refine WQ_nil ?_
          intro w1 hb1
          have HOw := zH (owns_to HO.out hb1)
          replace HR0 := zH (HR0.out.trans (hb1.mono HR0.out.size))
          clear hb1 HO
          go_wp2_with fail
          cases dn
          · cases lt
            · obtain ⟨wx, hwx⟩ : ∃ x, x = w1 := ⟨_, rfl⟩
              subst hwx
              refine wp_region_quiet_all (fun w' => Below (World.heap wx).size (wx) w') (by kernel_rfl) (by kernel_rfl) (Below.refl _ _).drew ?_
              refine WQ.out ?_
              repeat (first | (refine WQ_no (by rfl) ?_; (simp only [Act.put, zzT, zzO, zzS])) | (refine WQ_yes (by rfl) ?_; apply Exists.intro; refine ⟨fun w1 hb1 => ?_, ?_⟩; (focus (((have k1 := ((HR0.out.trans (hb1.mono HR0.out.size)).cell (p := ⟨ba, oa + k * 2, none⟩) hba).trans h1.out; have k2 := ((HR0.out.trans (hb1.mono HR0.out.size)).cell (p := ⟨ba, oa + k * 2 + 1, none⟩) hba).trans h2.out; obtain ⟨-, k3, -⟩ := K3.out.to (HR0.out.trans (hb1.mono HR0.out.size))); have hb1 := zH hb1; go_simp); (try (go_bits; try go_simp)); (try (rw [if_pos (by omega)]; try go_simp)); (first | done | ((go_at_call 130; refine (HLS.out _).mono ?_; rintro e w' ⟨rfl, hb⟩; exact ⟨rfl, bThen hb1.out hb⟩)) | (with_reducible rfl) | exact rfl))); (simp only [Act.put, zzT, zzO, zzS])))
              refine WQ_nil ?_
              intro w1 hb1
              replace HOw := zH (owns_to HOw.out hb1)
              have HRw := zH (HR0.out.trans (hb1.mono HR0.out.size))
              clear hb1 HR0 HLS
              have HPN := zH (HGK.out (.inr rfl))
              clear HGK HLK
              have HROW := zH (HOw.out.alloc (.cells #[.int .i64 n1, .bool d1] 46))
              have HNN := zH (Blk.new w1 #[.int .i64 n1, .bool d1] 46).news
              have hlo := zH HOw.out.lt
              have hsw : W.heap.size ≤ w1.heap.size := HRw.out.size
              have k1 := (HRw.out.cell (p := ⟨ba, oa + k * 2, none⟩) hba).trans h1.out
              have k2 := (HRw.out.cell (p := ⟨ba, oa + k * 2 + 1, none⟩) hba).trans h2.out
              obtain ⟨-, k3, -⟩ := K3.out.to HRw.out
              go_wp2_with (at_builtin; go_loud (refine wpList_app W.heap.size rtSt rfl (.tmp 35) (.tmp 40) rfl _ m _ rfl HROW.out ⟨w1.heap.size, 0, none⟩ 1 1 [.int .i64 n1, .bool d1] rfl rfl (by simpa using HNN.out) (onesS [(n1, d1)]) (by unfold maxLen; omega) (by omega) (by simp; omega) ?_; intro v' w7 hown' hgrow _ hwhere; obtain ⟨va', vc', rfl⟩ := ownsRow_sl hown'; have HO7 := zH hown'; have HG7 := zH hgrow; clear hown' hgrow hwhere k1 k2 k3))
              have HRn : Hid (Below W.heap.size W w7) := zH (HRw.out.trans (((Below.refl _ _).alloc hsw _).grown HG7.out (by simp; omega) (fun k e => (hlo.out k e).1)))
              go_roundw
              case rel => exact ⟨k + 1, va', vc', false, out ++ [(n1, d1)], by rw [show (out ++ [(n1, d1)]).length = m + 1 by rw [List.length_append, HM.out]; rfl], rfl, by go_num, by omega, zH HPN.out, zH (by rw [show (out ++ [(n1, d1)]).length = m + 1 by rw [List.length_append, HM.out]; rfl, scells_snoc]; exact HO7.out), HRn⟩
              case measure => simp [intOf]; omega
            · obtain ⟨wx, hwx⟩ : ∃ x, x = w1 := ⟨_, rfl⟩
              subst hwx
              refine wp_region_quiet_all (fun w' => Below (World.heap wx).size (wx) w') (by kernel_rfl) (by kernel_rfl) (Below.refl _ _).drew ?_
              refine WQ.out ?_
              repeat (first | (refine WQ_no (by rfl) ?_; (simp only [Act.put, zzT, zzO, zzS])) | (refine WQ_yes (by rfl) ?_; apply Exists.intro; refine ⟨fun w1 hb1 => ?_, ?_⟩; (focus (((have k1 := ((HR0.out.trans (hb1.mono HR0.out.size)).cell (p := ⟨ba, oa + k * 2, none⟩) hba).trans h1.out; have k2 := ((HR0.out.trans (hb1.mono HR0.out.size)).cell (p := ⟨ba, oa + k * 2 + 1, none⟩) hba).trans h2.out; obtain ⟨-, k3, -⟩ := K3.out.to (HR0.out.trans (hb1.mono HR0.out.size))); have hb1 := zH hb1; go_simp); (try (go_bits; try go_simp)); (try (rw [if_pos (by omega)]; try go_simp)); (first | done | ((go_at_call 130; refine (HLS.out _).mono ?_; rintro e w' ⟨rfl, hb⟩; exact ⟨rfl, bThen hb1.out hb⟩)) | (with_reducible rfl) | exact rfl))); (simp only [Act.put, zzT, zzO, zzS])))
              refine WQ_nil ?_
              intro w1 hb1
              replace HOw := zH (owns_to HOw.out hb1)
              have HRw := zH (HR0.out.trans (hb1.mono HR0.out.size))
              clear hb1 HR0 HLS
              have HPN := zH (HLK.out rfl rfl)
              clear HGK HLK
              have HROW := zH (HOw.out.alloc (.cells #[.int .i64 n1, .bool s2] 46))
              have HNN := zH (Blk.new w1 #[.int .i64 n1, .bool s2] 46).news
              have hlo := zH HOw.out.lt
              have hsw : W.heap.size ≤ w1.heap.size := HRw.out.size
              have k1 := (HRw.out.cell (p := ⟨ba, oa + k * 2, none⟩) hba).trans h1.out
              have k2 := (HRw.out.cell (p := ⟨ba, oa + k * 2 + 1, none⟩) hba).trans h2.out
              obtain ⟨-, k3, -⟩ := K3.out.to HRw.out
              go_upto_region 10 with (at_builtin; go_loud (refine wpList_app W.heap.size rtSt rfl (.tmp 31) (.tmp 33) rfl _ m _ rfl HROW.out ⟨w1.heap.size, 0, none⟩ 1 1 [.int .i64 n1, .bool s2] rfl rfl (by simpa using HNN.out) (onesS [(n1, s2)]) (by unfold maxLen; omega) (by omega) (by simp; omega) ?_; intro v' w6 hown' hgrow _ hwhere; obtain ⟨va', vc', rfl⟩ := ownsRow_sl hown'; have HO7 := zH hown'; have HG7 := zH hgrow; clear hown' hgrow hwhere k1 k2 k3))
              have HR6 : Hid (Below W.heap.size W w6) := zH (HRw.out.trans (((Below.refl _ _).alloc hsw _).grown HG7.out (by simp; omega) (fun k e => (hlo.out k e).1)))
              have HO6 := zH HO7.out
              replace HRw := zH HR6.out
              clear HR6 HROW HNN hlo hsw HOw HG7 HO7
              have HROW := zH (HO6.out.alloc (.cells #[.int .i64 n1, .bool d1] 46))
              have HNN := zH (Blk.new w6 #[.int .i64 n1, .bool d1] 46).news
              have hlo := zH HO6.out.lt
              have hsw : W.heap.size ≤ w6.heap.size := HRw.out.size
              have k1 := (HRw.out.cell (p := ⟨ba, oa + k * 2, none⟩) hba).trans h1.out
              have k2 := (HRw.out.cell (p := ⟨ba, oa + k * 2 + 1, none⟩) hba).trans h2.out
              obtain ⟨-, k3, -⟩ := K3.out.to HRw.out
              go_wp2_with (at_builtin; go_loud (refine wpList_app W.heap.size rtSt rfl (.tmp 35) (.tmp 40) rfl _ (m + 1) _ rfl HROW.out ⟨w6.heap.size, 0, none⟩ 1 1 [.int .i64 n1, .bool d1] rfl rfl (by simpa using HNN.out) (onesS [(n1, d1)]) (by unfold maxLen; omega) (by omega) (by simp; omega) ?_; intro v' w7 hown' hgrow _ hwhere; obtain ⟨va', vc', rfl⟩ := ownsRow_sl hown'; have HO7 := zH hown'; have HG7 := zH hgrow; clear hown' hgrow hwhere k1 k2 k3))
              have HRn : Hid (Below W.heap.size W w7) := zH (HRw.out.trans (((Below.refl _ _).alloc hsw _).grown HG7.out (by simp; omega) (fun k e => (hlo.out k e).1)))
              go_roundw
              case rel => exact ⟨k + 1, va', vc', true, out ++ [(n1, s2)] ++ [(n1, d1)], by rw [show (out ++ [(n1, s2)] ++ [(n1, d1)]).length = m + 1 + 1 by rw [List.length_append, List.length_append, HM.out]; rfl], rfl, by go_num, by omega, zH HPN.out, zH (by rw [show (out ++ [(n1, s2)] ++ [(n1, d1)]).length = m + 1 + 1 by rw [List.length_append, List.length_append, HM.out]; rfl, scells_snoc, scells_snoc]; exact HO7.out), HRn⟩
              case measure => simp [intOf]; omega
          · obtain ⟨wx, hwx⟩ : ∃ x, x = w1 := ⟨_, rfl⟩
            subst hwx
            refine wp_region_quiet_all (fun w' => Below (World.heap wx).size (wx) w') (by kernel_rfl) (by kernel_rfl) (Below.refl _ _).drew ?_
            refine WQ.out ?_
            repeat (first | (refine WQ_no (by rfl) ?_; (simp only [Act.put, zzT, zzO, zzS])) | (refine WQ_yes (by rfl) ?_; apply Exists.intro; refine ⟨fun w1 hb1 => ?_, ?_⟩; (focus (((have k1 := ((HR0.out.trans (hb1.mono HR0.out.size)).cell (p := ⟨ba, oa + k * 2, none⟩) hba).trans h1.out; have k2 := ((HR0.out.trans (hb1.mono HR0.out.size)).cell (p := ⟨ba, oa + k * 2 + 1, none⟩) hba).trans h2.out; obtain ⟨-, k3, -⟩ := K3.out.to (HR0.out.trans (hb1.mono HR0.out.size))); have hb1 := zH hb1; go_simp); (try (go_bits; try go_simp)); (try (rw [if_pos (by omega)]; try go_simp)); (first | done | (with_reducible rfl) | exact rfl))); (simp only [Act.put, zzT, zzO, zzS])))
            refine WQ_nil ?_
            intro w1 hb1
            replace HOw := zH (owns_to HOw.out hb1)
            have HRw := zH (HR0.out.trans (hb1.mono HR0.out.size))
            clear hb1 HR0 HLS
            have HPN := zH (HGK.out (.inl rfl))
            clear HGK HLK
            have HROW := zH (HOw.out.alloc (.cells #[.int .i64 n1, .bool d1] 46))
            have HNN := zH (Blk.new w1 #[.int .i64 n1, .bool d1] 46).news
            have hlo := zH HOw.out.lt
            have hsw : W.heap.size ≤ w1.heap.size := HRw.out.size
            have k1 := (HRw.out.cell (p := ⟨ba, oa + k * 2, none⟩) hba).trans h1.out
            have k2 := (HRw.out.cell (p := ⟨ba, oa + k * 2 + 1, none⟩) hba).trans h2.out
            obtain ⟨-, k3, -⟩ := K3.out.to HRw.out
            go_wp2_with (at_builtin; go_loud (refine wpList_app W.heap.size rtSt rfl (.tmp 35) (.tmp 40) rfl _ m _ rfl HROW.out ⟨w1.heap.size, 0, none⟩ 1 1 [.int .i64 n1, .bool d1] rfl rfl (by simpa using HNN.out) (onesS [(n1, d1)]) (by unfold maxLen; omega) (by omega) (by simp; omega) ?_; intro v' w7 hown' hgrow _ hwhere; obtain ⟨va', vc', rfl⟩ := ownsRow_sl hown'; have HO7 := zH hown'; have HG7 := zH hgrow; clear hown' hgrow hwhere k1 k2 k3))
            have HRn : Hid (Below W.heap.size W w7) := zH (HRw.out.trans (((Below.refl _ _).alloc hsw _).grown HG7.out (by simp; omega) (fun k e => (hlo.out k e).1)))
            go_roundw
            case rel => exact ⟨k + 1, va', vc', true, out ++ [(n1, d1)], by rw [show (out ++ [(n1, d1)]).length = m + 1 by rw [List.length_append, HM.out]; rfl], rfl, by go_num, by omega, zH HPN.out, zH (by rw [show (out ++ [(n1, d1)]).length = m + 1 by rw [List.length_append, HM.out]; rfl, scells_snoc]; exact HO7.out), HRn⟩
            case measure => simp [intOf]; omega
    · obtain rfl : n = k := by omega
      have hf := HFN.out dn out HP.out
      have HOw := zH HO.out
      have HRw := zH HR0.out
      cases dn with
      | true =>
        rw [if_pos rfl] at hf
        obtain ⟨a', cap', e, hcp, hrd, hfr⟩ := Reads.of_row (f := osts out) HOw.out (fun i hi => scells_get out i (by rw [HM.out]; exact hi))
        cases e
        go_wp2_with fail
        go_ret
        refine ⟨va, vc, ?_, ?_, ?_, bThen HB.out HRw.out⟩
        · rw [hf, HM.out]; rfl
        · rw [hf, HM.out]; exact hcp
        · rw [hf, HM.out]; exact hrd
      | false =>
        rw [if_neg (by decide)] at hf
        have HROW := zH (HOw.out.alloc (.cells #[.int .i64 s1, .bool s2] 46))
        have HNN := zH (Blk.new wr #[.int .i64 s1, .bool s2] 46).news
        have hlo := zH HOw.out.lt
        have hsw : W.heap.size ≤ wr.heap.size := HRw.out.size
        have hll : (out ++ [(s1, s2)]).length = m + 1 := by rw [List.length_append, HM.out]; rfl
        have HLL := zH hll
        clear hll
        go_wp2_with (at_builtin; go_loud (refine wpList_app W.heap.size rtSt rfl (.tmp 44) (.tmp 46) rfl _ m _ rfl HROW.out ⟨wr.heap.size, 0, none⟩ 1 1 [.int .i64 s1, .bool s2] rfl rfl (by simpa using HNN.out) (onesS [(s1, s2)]) (by unfold maxLen; omega) (by omega) (by simp; omega) ?_; intro v' w7 hown' hgrow _ hwhere; obtain ⟨va', vc', rfl⟩ := ownsRow_sl hown'; have HO7 := zH hown'; have HG7 := zH hgrow; clear hown' hgrow hwhere k3))
        have HRn : Hid (Below W.heap.size W w7) := zH (HRw.out.trans (((Below.refl _ _).alloc hsw _).grown HG7.out (by simp; omega) (fun k e => (hlo.out k e).1)))
        have hrow := HO7.out
        have hsc : scells out ++ [.int .i64 s1, .bool s2] = scells (out ++ [(s1, s2)]) := (scells_snoc out (s1, s2)).symm
        rw [hsc] at hrow
        obtain ⟨a', cap', e, hcp, hrd, hfr⟩ := Reads.of_row (f := osts (out ++ [(s1, s2)])) hrow (fun i hi => scells_get _ i (by rw [HLL.out]; exact hi))
        cases e
        go_ret
        refine ⟨va', vc', ?_, ?_, ?_, bThen HB.out HRn.out⟩
        · rw [hf, HLL.out]; rfl
        · rw [hf, HLL.out]; exact hcp
        · rw [hf, HLL.out]; exact hrd

end Go.Proofs.YtjfedpblkejmkaaGreat

