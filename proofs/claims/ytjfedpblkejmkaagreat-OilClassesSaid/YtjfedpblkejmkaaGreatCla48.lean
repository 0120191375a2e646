/-
  Texts of this claim, in their build order: OR19 OR20 OR21 OW8 OR25 OR26 OM27 OL12.
-/
import Derived.Test.YtjfedpblkejmkaaGreatCla47
import Derived.Test.YtjfedpblkejmkaaGreatCla18
import Derived.Test.YtjfedpblkejmkaaGreatCla44
import Derived.Test.YtjfedpblkejmkaaGreatCla25
import Derived.Test.YtjfedpblkejmkaaGreatCla26
import Derived.Test.YtjfedpblkejmkaaGreatCla24
import Derived.Test.YtjfedpblkejmkaaGreatCla32
import Derived.Test.YtjfedpblkejmkaaGreatCla41
import Derived.Test.YtjfedpblkejmkaaGreatCla46
import Derived.Test.YtjfedpblkejmkaaGreatCla33
import Derived.Test.YtjfedpblkejmkaaGreatCla38
import Derived.Test.YtjfedpblkejmkaaGreatCla4
import Derived.Test.YtjfedpblkejmkaaGreatCla45
import Derived.Test.YtjfedpblkejmkaaGreatCla0

namespace Go.Proofs.YtjfedpblkejmkaaGreat
section
set_option maxRecDepth 100000
set_option maxHeartbeats 6400000
open Go.RowKit
attribute [local go_sem] Oper.semAt_some

theorem rLess_any (a b : OSt) (w : World) :
    Calls Tryz.prog 130 #[.agg #[.int .i64 a.1, .bool a.2], .agg #[.int .i64 b.1, .bool b.2]] w fun e w' => e = .returned (.bool (ltS a b)) ∧ Below w.heap.size w w' := by
  obtain ⟨a1, a2⟩ := a
  obtain ⟨b1, b2⟩ := b
  unfold ltS
  dsimp only
  by_cases h1 : a1 < b1
  · rw [decide_eq_true h1, Bool.true_or]
    go_enter Tryz.func130, Tryz.ntmps130
    go_wp2_with fail
    go_ret
    exact ⟨rfl, bAlloc (bAlloc (bSelf w) _) _⟩
  · rw [decide_eq_false h1, Bool.false_or]
    by_cases h2 : a1 = b1
    · subst h2
      cases a2 <;> cases b2
      all_goals
        go_enter Tryz.func130, Tryz.ntmps130
        go_wp2_with fail
        go_ret
        exact ⟨ret_bool (by simp), bAlloc (bAlloc (bSelf w) _) _⟩
    · have h3 : (a1 == b1) = false := by simpa using h2
      rw [h3, Bool.false_and, Bool.false_and]
      have h4 : b1 < a1 := by omega
      go_enter Tryz.func130, Tryz.ntmps130
      go_wp2_with fail
      go_ret
      exact ⟨rfl, bAlloc (bAlloc (bSelf w) _) _⟩

/-- What stands at the head of a round of put. -/
structure PutI (l : List OSt) (s : OSt) (k : Nat) (dn : Bool) (out : List OSt) : Prop where
  eq : putS l s = out ++ (if dn = true then l.drop k else putS (l.drop k) s)
  no : dn = true → ∀ j, k ≤ j → j < l.length → sg l j ≠ s
  at' : dn = false → out = l.take k
  le : out.length ≤ k + 1
theorem drop_sg {l : List OSt} {k : Nat} (h : k < l.length) : l.drop k = sg l k :: l.drop (k + 1) := by
  rw [List.drop_eq_getElem_cons h]
  unfold sg
  rw [List.getD_eq_getElem?_getD, List.getElem?_eq_getElem h]
  rfl
theorem PutI.start (l : List OSt) (s : OSt) : PutI l s 0 false [] := ⟨rfl, fun h => (by cases h), fun _ => rfl, Nat.zero_le _⟩
theorem putS_cons (x : OSt) (l : List OSt) (s : OSt) : putS (x :: l) s = if x = s then x :: l else if ltS s x then s :: x :: l else x :: putS l s := rfl
theorem srt_lt {l : List OSt} (h : SrtS l) {i j : Nat} (hij : i < j) (hj : j < l.length) : ltS (sg l i) (sg l j) = true := by
  have := (List.pairwise_iff_getElem.1 h) i j (by omega) hj hij
  unfold sg
  rw [List.getD_eq_getElem?_getD, List.getD_eq_getElem?_getD, List.getElem?_eq_getElem (by omega : i < l.length), List.getElem?_eq_getElem hj]
  exact this
/-- The state stands there. -/
theorem PutI.found {l : List OSt} {s : OSt} {k : Nat} {dn : Bool} {out : List OSt} (h : PutI l s k dn out) (hk : k < l.length) (e : sg l k = s) : putS l s = l := by
  cases dn with
  | true => exact absurd e (h.no rfl k (Nat.le_refl _) hk)
  | false =>
    rw [h.eq, h.at' rfl, if_neg (by decide), drop_sg hk]
    rw [putS_cons, if_pos e, ← drop_sg hk, List.take_append_drop]
/-- It is laid in ahead of the next one. -/
theorem PutI.lay {l : List OSt} {s : OSt} {k : Nat} {out : List OSt} (h : PutI l s k false out) (hs : SrtS l) (hk : k < l.length) (e : sg l k ≠ s) (hl : ltS s (sg l k) = true) : PutI l s (k + 1) true (out ++ [s] ++ [sg l k]) := by
  refine ⟨?_, fun _ j hj hjl e2 => ?_, fun h => (by cases h), ?_⟩
  · rw [h.eq, if_neg (by decide), if_pos rfl, drop_sg hk]
    rw [putS_cons, if_neg e, if_pos hl]
    simp
  · have h1 := srt_lt hs (show k < j by omega) hjl
    rw [e2] at h1
    have h2 := ltS_asym h1
    rw [h2] at hl
    cases hl
  · have h1 := h.at' rfl
    subst h1
    simp only [List.length_append, List.length_take, List.length_cons, List.length_nil]
    omega
/-- The next one alone. -/
theorem PutI.go {l : List OSt} {s : OSt} {k : Nat} {dn : Bool} {out : List OSt} (h : PutI l s k dn out) (hk : k < l.length) (e : sg l k ≠ s) (hl : dn = true ∨ ltS s (sg l k) = false) : PutI l s (k + 1) dn (out ++ [sg l k]) := by
  cases dn with
  | true =>
    refine ⟨?_, fun _ j hj hjl => h.no rfl j (by omega) hjl, fun h => (by cases h), by have := h.le; simp; omega⟩
    rw [h.eq, if_pos rfl, if_pos rfl, drop_sg hk]
    simp
  | false =>
    have hl' : ltS s (sg l k) = false := hl.resolve_left (by decide)
    refine ⟨?_, fun h => (by cases h), fun _ => ?_, by have := h.le; simp; omega⟩
    · rw [h.eq, if_neg (by decide), if_neg (by decide), drop_sg hk]
      rw [putS_cons, if_neg e, if_neg (by rw [hl']; decide)]
      simp
    · rw [h.at' rfl, sg_take hk]
/-- All done. -/
theorem PutI.fin {l : List OSt} {s : OSt} {dn : Bool} {out : List OSt} (h : PutI l s l.length dn out) : putS l s = if dn = true then out else out ++ [s] := by
  rw [h.eq, List.drop_length]
  cases dn with
  | true => simp
  | false => rfl

def PutPost (l : List OSt) (s : OSt) (w : World) (e : Ending) (w' : World) : Prop :=
  ∃ a' c', e = .returned (.slice a' (putS l s).length c') ∧ (putS l s).length ≤ c' ∧ Reads w' a' ((putS l s).length * 2) (osts (putS l s)) ∧ Below w.heap.size w w'
theorem scells_snoc (l : List OSt) (s : OSt) : scells (l ++ [s]) = scells l ++ [.int .i64 s.1, .bool s.2] := by
  unfold scells
  rw [List.flatMap_append]
  rfl

theorem rPut_any (l : List OSt) (s : OSt) (a : Option Addr) (cap : Nat) (w : World) (hlen : l.length ≤ 100000) (hcap : l.length ≤ cap) (hs : SrtS l) (hr : Reads w a (l.length * 2) (osts l)) :
    Calls Tryz.prog 171 #[.slice a l.length cap, .agg #[.int .i64 s.1, .bool s.2]] w (PutPost l s w) := by
  have HA := zH hr
  have HS := zH hs
  have HFD := zH (fun k dn out (h : PutI l s k dn out) hk e => h.found hk e)
  have HLY := zH (fun k out (h : PutI l s k false out) hk e hl => h.lay hs hk e hl)
  have HGO := zH (fun k dn out (h : PutI l s k dn out) hk e hl => h.go hk e hl)
  have HFN := zH (fun dn out (h : PutI l s l.length dn out) => h.fin)
  have HST := zH (PutI.start l s)
  obtain ⟨n, hn⟩ : ∃ n, l.length = n := ⟨_, rfl⟩
  have HN := zH hn
  rw [hn] at HA HFD HLY HGO HFN hlen hcap ⊢
  clear hr hs hn
  obtain ⟨s1, s2⟩ := s
  dsimp only
  go_enter Tryz.func171, Tryz.ntmps171
  go_wp2_with fail
  obtain ⟨W, hW⟩ : ∃ W, w.alloc (.cells #[.int .i64 s1, .bool s2] 46) = W := ⟨_, rfl⟩
  rw [hW]
  have K3 : Hid (Blk W w.heap.size #[.int .i64 s1, .bool s2]) := by subst hW; exact zH (Blk.new _ _ _)
  have HB : Hid (Below w.heap.size w W) := by subst hW; exact zH (bAlloc (bSelf w) _)
  replace HA := zH (HA.out.to HB.out)
  clear hW
  go_loopw [5, 6, 7] (fun s5 s6 s7 wr => ∃ (k : Nat) (va : Option Addr) (vc : Nat) (dn : Bool) (out : List OSt), s5 = .slice va out.length vc ∧ s6 = .bool dn ∧ s7 = .int .i64 k ∧ k ≤ n ∧ Hid (PutI l (s1, s2) k dn out) ∧ Hid (wr.ownsRow W.heap.size 46 2 (.slice va out.length vc) out.length (scells out)) ∧ Hid (Below W.heap.size W wr)) (fun _ _ s7 _ => n - (intOf s7).toNat)
  case atStart => exact ⟨0, none, 0, false, [], rfl, rfl, rfl, Nat.zero_le _, HST, zH ⟨by simp [scells], .inl ⟨rfl, rfl⟩⟩, zH (bSelf W)⟩
  case round =>
    obtain ⟨k, va, vc, dn, out, rfl, rfl, rfl, hk, HP, HO, HR0⟩ := hrel
    have hol := HP.out.le
    obtain ⟨m, hm⟩ : ∃ m, out.length = m := ⟨_, rfl⟩
    have HM := zH hm
    rw [hm] at HO hol ⊢
    clear hm
    obtain ⟨-, k3, -⟩ := K3.out.to HR0.out
    by_cases hlt : k < n
    · obtain ⟨ba, oa, rfl, hba, hca⟩ := HA.out.at (k := k * 2) (by omega)
      obtain ⟨⟨n1, d1⟩, hz⟩ : ∃ q, sg l k = q := ⟨_, rfl⟩
      have h1 : Hid (W.cell? ⟨ba, oa + k * 2, none⟩ = some (.int .i64 n1)) := zH (by rw [hca _ (by omega), osts0, hz])
      have h2 : Hid (W.cell? ⟨ba, oa + k * 2 + 1, none⟩ = some (.bool d1)) := zH (by rw [Nat.add_assoc, hca _ (by omega), osts1, hz])
      have HFK := zH (fun e => HFD.out k dn out HP.out hlt e)
      have HGK := zH (fun e hl => HGO.out k dn out HP.out hlt e hl)
      have HLK := zH (fun (hd : dn = false) e hl => HLY.out k out (by subst hd; exact HP.out) hlt e hl)
      rw [hz] at HFK HGK HLK
      clear hca hz HFD HGO HFN HST HLY
      by_cases he : (n1, d1) = (s1, s2)
      · cases he
        have hput := HFK.out rfl
        go_wp2_with fail
        clear k3
        refine wp_region_quiet_all (fun w' => Below (World.heap wr).size (wr) w') (by kernel_rfl) (by kernel_rfl) (Below.refl _ _).drew ?_
        refine WQ.out ?_
        repeat (first | (refine WQ_no (by rfl) ?_; (simp only [Act.put, zzT, zzO, zzS])) | (refine WQ_yes (by rfl) ?_; apply Exists.intro; refine ⟨fun w1 hb1 => ?_, ?_⟩; (focus (((have k1 := ((HR0.out.trans (hb1.mono HR0.out.size)).cell (p := ⟨ba, oa + k * 2, none⟩) hba).trans h1.out; have k2 := ((HR0.out.trans (hb1.mono HR0.out.size)).cell (p := ⟨ba, oa + k * 2 + 1, none⟩) hba).trans h2.out; obtain ⟨-, k3, -⟩ := K3.out.to (HR0.out.trans (hb1.mono HR0.out.size))); have hb1 := zH hb1; go_simp); (try (go_bits; try go_simp)); (try (rw [if_pos (by omega)]; try go_simp)); (first | done | (with_reducible rfl) | exact rfl))); (simp only [Act.put, zzT, zzO, zzS])))
        refine WQ_nil ?_
        intro w1 hb1
        have HB1 := zH (HR0.out.trans (hb1.mono HR0.out.size))
        clear hb1
        go_wp2_with fail
        go_ret
        refine ⟨some ⟨ba, oa, none⟩, cap, ?_, ?_, ?_, bThen HB.out HB1.out⟩
        · rw [hput, HN.out]; rfl
        · rw [hput, HN.out]; exact hcap
        · rw [hput, HN.out]; exact HA.out.to HB1.out
      · have HE := zH he
        have hcs : (¬ n1 = s1) ∨ (n1 = s1 ∧ ¬ d1 = s2) := by
          by_cases h : n1 = s1
          · exact .inr ⟨h, fun h2 => he (by rw [h, h2])⟩
          · exact .inl h
        clear he HFK
        replace HGK := zH (fun hl => HGK.out HE.out hl)
        replace HLK := zH (fun hd hl => HLK.out hd HE.out hl)
        have HLS := zH (fun W => rLess_any (s1, s2) (n1, d1) W)
        obtain ⟨lt, hlt'⟩ : ∃ b, ltS (s1, s2) (n1, d1) = b := ⟨_, rfl⟩
        rw [hlt'] at HLS HGK HLK
        dsimp only at HLS
        clear hlt' HE
        rcases hcs with hn | ⟨rfl, hn⟩
        · go_wp2_with fail
          clear k3
          refine wp_region_quiet_all (fun w' => Below (World.heap wr).size (wr) w') (by kernel_rfl) (by kernel_rfl) (Below.refl _ _).drew ?_
          refine WQ.out ?_
          repeat (first | (refine WQ_no (by rfl) ?_; (simp only [Act.put, zzT, zzO, zzS])) | (refine WQ_yes (by rfl) ?_; apply Exists.intro; refine ⟨fun w1 hb1 => ?_, ?_⟩; (focus (((have k1 := ((HR0.out.trans (hb1.mono HR0.out.size)).cell (p := ⟨ba, oa + k * 2, none⟩) hba).trans h1.out; have k2 := ((HR0.out.trans (hb1.mono HR0.out.size)).cell (p := ⟨ba, oa + k * 2 + 1, none⟩) hba).trans h2.out; obtain ⟨-, k3, -⟩ := K3.out.to (HR0.out.trans (hb1.mono HR0.out.size))); have hb1 := zH hb1; go_simp); (try (go_bits; try go_simp)); (try (rw [if_pos (by omega)]; try go_simp)); (first | done | (with_reducible rfl) | exact rfl))); (simp only [Act.put, zzT, zzO, zzS])))
          refine WQ_nil ?_
          intro w1 hb1
          have HOw := zH (owns_to HO.out hb1)
          replace HR0 := zH (HR0.out.trans (hb1.mono HR0.out.size))
          clear hb1 HO
          go_wp2_with fail
          cases dn
          · cases lt
            · obtain ⟨wx, hwx⟩ : ∃ x, x = w1 := ⟨_, rfl⟩
              subst hwx
              refine wp_region_quiet_all (fun w' => Below (World.heap wx).size (wx) w') (by kernel_rfl) (by kernel_rfl) (Below.refl _ _).drew ?_
              refine WQ.out ?_
              repeat (first | (refine WQ_no (by rfl) ?_; (simp only [Act.put, zzT, zzO, zzS])) | (refine WQ_yes (by rfl) ?_; apply Exists.intro; refine ⟨fun w1 hb1 => ?_, ?_⟩; (focus (((have k1 := ((HR0.out.trans (hb1.mono HR0.out.size)).cell (p := ⟨ba, oa + k * 2, none⟩) hba).trans h1.out; have k2 := ((HR0.out.trans (hb1.mono HR0.out.size)).cell (p := ⟨ba, oa + k * 2 + 1, none⟩) hba).trans h2.out; obtain ⟨-, k3, -⟩ := K3.out.to (HR0.out.trans (hb1.mono HR0.out.size))); have hb1 := zH hb1; go_simp); (try (go_bits; try go_simp)); (try (rw [if_pos (by omega)]; try go_simp)); (first | done | ((go_at_call 130; refine (HLS.out _).mono ?_; rintro e w' ⟨rfl, hb⟩; exact ⟨rfl, bThen hb1.out hb⟩)) | (with_reducible rfl) | exact rfl))); (simp only [Act.put, zzT, zzO, zzS])))
              refine WQ_nil ?_
              intro w1 hb1
              replace HOw := zH (owns_to HOw.out hb1)
              have HRw := zH (HR0.out.trans (hb1.mono HR0.out.size))
              clear hb1 HR0 HLS
              have HPN := zH (HGK.out (.inr rfl))
              clear HGK HLK
              have HROW := zH (HOw.out.alloc (.cells #[.int .i64 n1, .bool d1] 46))
              have HNN := zH (Blk.new w1 #[.int .i64 n1, .bool d1] 46).news
              have hlo := zH HOw.out.lt
              have hsw : W.heap.size ≤ w1.heap.size := HRw.out.size
              have k1 := (HRw.out.cell (p := ⟨ba, oa + k * 2, none⟩) hba).trans h1.out
              have k2 := (HRw.out.cell (p := ⟨ba, oa + k * 2 + 1, none⟩) hba).trans h2.out
              obtain ⟨-, k3, -⟩ := K3.out.to HRw.out
              go_wp2_with (at_builtin; go_loud (refine wpList_app W.heap.size rtSt rfl (.tmp 35) (.tmp 40) rfl _ m _ rfl HROW.out ⟨w1.heap.size, 0, none⟩ 1 1 [.int .i64 n1, .bool d1] rfl rfl (by simpa using HNN.out) (onesS [(n1, d1)]) (by unfold maxLen; omega) (by omega) (by simp; omega) ?_; intro v' w7 hown' hgrow _ hwhere; obtain ⟨va', vc', rfl⟩ := ownsRow_sl hown'; have HO7 := zH hown'; have HG7 := zH hgrow; clear hown' hgrow hwhere k1 k2 k3))
              have HRn : Hid (Below W.heap.size W w7) := zH (HRw.out.trans (((Below.refl _ _).alloc hsw _).grown HG7.out (by simp; omega) (fun k e => (hlo.out k e).1)))
              go_roundw
              case rel => exact ⟨k + 1, va', vc', false, out ++ [(n1, d1)], by rw [show (out ++ [(n1, d1)]).length = m + 1 by rw [List.length_append, HM.out]; rfl], rfl, by go_num, by omega, zH HPN.out, zH (by rw [show (out ++ [(n1, d1)]).length = m + 1 by rw [List.length_append, HM.out]; rfl, scells_snoc]; exact HO7.out), HRn⟩
              case measure => simp [intOf]; omega
            · obtain ⟨wx, hwx⟩ : ∃ x, x = w1 := ⟨_, rfl⟩
              subst hwx
              refine wp_region_quiet_all (fun w' => Below (World.heap wx).size (wx) w') (by kernel_rfl) (by kernel_rfl) (Below.refl _ _).drew ?_
              refine WQ.out ?_
              repeat (first | (refine WQ_no (by rfl) ?_; (simp only [Act.put, zzT, zzO, zzS])) | (refine WQ_yes (by rfl) ?_; apply Exists.intro; refine ⟨fun w1 hb1 => ?_, ?_⟩; (focus (((have k1 := ((HR0.out.trans (hb1.mono HR0.out.size)).cell (p := ⟨ba, oa + k * 2, none⟩) hba).trans h1.out; have k2 := ((HR0.out.trans (hb1.mono HR0.out.size)).cell (p := ⟨ba, oa + k * 2 + 1, none⟩) hba).trans h2.out; obtain ⟨-, k3, -⟩ := K3.out.to (HR0.out.trans (hb1.mono HR0.out.size))); have hb1 := zH hb1; go_simp); (try (go_bits; try go_simp)); (try (rw [if_pos (by omega)]; try go_simp)); (first | done | ((go_at_call 130; refine (HLS.out _).mono ?_; rintro e w' ⟨rfl, hb⟩; exact ⟨rfl, bThen hb1.out hb⟩)) | (with_reducible rfl) | exact rfl))); (simp only [Act.put, zzT, zzO, zzS])))
              refine WQ_nil ?_
              intro w1 hb1
              replace HOw := zH (owns_to HOw.out hb1)
              have HRw := zH (HR0.out.trans (hb1.mono HR0.out.size))
              clear hb1 HR0 HLS
              have HPN := zH (HLK.out rfl rfl)
              clear HGK HLK
              have HROW := zH (HOw.out.alloc (.cells #[.int .i64 s1, .bool s2] 46))
              have HNN := zH (Blk.new w1 #[.int .i64 s1, .bool s2] 46).news
              have hlo := zH HOw.out.lt
              have hsw : W.heap.size ≤ w1.heap.size := HRw.out.size
              have k1 := (HRw.out.cell (p := ⟨ba, oa + k * 2, none⟩) hba).trans h1.out
              have k2 := (HRw.out.cell (p := ⟨ba, oa + k * 2 + 1, none⟩) hba).trans h2.out
              obtain ⟨-, k3, -⟩ := K3.out.to HRw.out
              go_upto_region 10 with (at_builtin; go_loud (refine wpList_app W.heap.size rtSt rfl (.tmp 31) (.tmp 33) rfl _ m _ rfl HROW.out ⟨w1.heap.size, 0, none⟩ 1 1 [.int .i64 s1, .bool s2] rfl rfl (by simpa using HNN.out) (onesS [(s1, s2)]) (by unfold maxLen; omega) (by omega) (by simp; omega) ?_; intro v' w6 hown' hgrow _ hwhere; obtain ⟨va', vc', rfl⟩ := ownsRow_sl hown'; have HO7 := zH hown'; have HG7 := zH hgrow; clear hown' hgrow hwhere k1 k2 k3))
              have HR6 : Hid (Below W.heap.size W w6) := zH (HRw.out.trans (((Below.refl _ _).alloc hsw _).grown HG7.out (by simp; omega) (fun k e => (hlo.out k e).1)))
              have HO6 := zH HO7.out
              replace HRw := zH HR6.out
              clear HR6 HROW HNN hlo hsw HOw HG7 HO7
              have HROW := zH (HO6.out.alloc (.cells #[.int .i64 n1, .bool d1] 46))
              have HNN := zH (Blk.new w6 #[.int .i64 n1, .bool d1] 46).news
              have hlo := zH HO6.out.lt
              have hsw : W.heap.size ≤ w6.heap.size := HRw.out.size
              have k1 := (HRw.out.cell (p := ⟨ba, oa + k * 2, none⟩) hba).trans h1.out
              have k2 := (HRw.out.cell (p := ⟨ba, oa + k * 2 + 1, none⟩) hba).trans h2.out
              obtain ⟨-, k3, -⟩ := K3.out.to HRw.out
              go_wp2_with (at_builtin; go_loud (refine wpList_app W.heap.size rtSt rfl (.tmp 35) (.tmp 40) rfl _ (m + 1) _ rfl HROW.out ⟨w6.heap.size, 0, none⟩ 1 1 [.int .i64 n1, .bool d1] rfl rfl (by simpa using HNN.out) (onesS [(n1, d1)]) (by unfold maxLen; omega) (by omega) (by simp; omega) ?_; intro v' w7 hown' hgrow _ hwhere; obtain ⟨va', vc', rfl⟩ := ownsRow_sl hown'; have HO7 := zH hown'; have HG7 := zH hgrow; clear hown' hgrow hwhere k1 k2 k3))
              have HRn : Hid (Below W.heap.size W w7) := zH (HRw.out.trans (((Below.refl _ _).alloc hsw _).grown HG7.out (by simp; omega) (fun k e => (hlo.out k e).1)))
              go_roundw
              case rel => exact ⟨k + 1, va', vc', true, out ++ [(s1, s2)] ++ [(n1, d1)], by rw [show (out ++ [(s1, s2)] ++ [(n1, d1)]).length = m + 1 + 1 by rw [List.length_append, List.length_append, HM.out]; rfl], rfl, by go_num, by omega, zH HPN.out, zH (by rw [show (out ++ [(s1, s2)] ++ [(n1, d1)]).length = m + 1 + 1 by rw [List.length_append, List.length_append, HM.out]; rfl, scells_snoc, scells_snoc]; exact HO7.out), HRn⟩
              case measure => simp [intOf]; omega
          · obtain ⟨wx, hwx⟩ : ∃ x, x = w1 := ⟨_, rfl⟩
            subst hwx
            refine wp_region_quiet_all (fun w' => Below (World.heap wx).size (wx) w') (by kernel_rfl) (by kernel_rfl) (Below.refl _ _).drew ?_
            refine WQ.out ?_
            repeat (first | (refine WQ_no (by rfl) ?_; (simp only [Act.put, zzT, zzO, zzS])) | (refine WQ_yes (by rfl) ?_; apply Exists.intro; refine ⟨fun w1 hb1 => ?_, ?_⟩; (focus (((have k1 := ((HR0.out.trans (hb1.mono HR0.out.size)).cell (p := ⟨ba, oa + k * 2, none⟩) hba).trans h1.out; have k2 := ((HR0.out.trans (hb1.mono HR0.out.size)).cell (p := ⟨ba, oa + k * 2 + 1, none⟩) hba).trans h2.out; obtain ⟨-, k3, -⟩ := K3.out.to (HR0.out.trans (hb1.mono HR0.out.size))); have hb1 := zH hb1; go_simp); (try (go_bits; try go_simp)); (try (rw [if_pos (by omega)]; try go_simp)); (first | done | (with_reducible rfl) | exact rfl))); (simp only [Act.put, zzT, zzO, zzS])))
            refine WQ_nil ?_
            intro w1 hb1
            replace HOw := zH (owns_to HOw.out hb1)
            have HRw := zH (HR0.out.trans (hb1.mono HR0.out.size))
            clear hb1 HR0 HLS
            have HPN := zH (HGK.out (.inl rfl))
            clear HGK HLK
            have HROW := zH (HOw.out.alloc (.cells #[.int .i64 n1, .bool d1] 46))
            have HNN := zH (Blk.new w1 #[.int .i64 n1, .bool d1] 46).news
            have hlo := zH HOw.out.lt
            have hsw : W.heap.size ≤ w1.heap.size := HRw.out.size
            have k1 := (HRw.out.cell (p := ⟨ba, oa + k * 2, none⟩) hba).trans h1.out
            have k2 := (HRw.out.cell (p := ⟨ba, oa + k * 2 + 1, none⟩) hba).trans h2.out
            obtain ⟨-, k3, -⟩ := K3.out.to HRw.out
            go_wp2_with (at_builtin; go_loud (refine wpList_app W.heap.size rtSt rfl (.tmp 35) (.tmp 40) rfl _ m _ rfl HROW.out ⟨w1.heap.size, 0, none⟩ 1 1 [.int .i64 n1, .bool d1] rfl rfl (by simpa using HNN.out) (onesS [(n1, d1)]) (by unfold maxLen; omega) (by omega) (by simp; omega) ?_; intro v' w7 hown' hgrow _ hwhere; obtain ⟨va', vc', rfl⟩ := ownsRow_sl hown'; have HO7 := zH hown'; have HG7 := zH hgrow; clear hown' hgrow hwhere k1 k2 k3))
            have HRn : Hid (Below W.heap.size W w7) := zH (HRw.out.trans (((Below.refl _ _).alloc hsw _).grown HG7.out (by simp; omega) (fun k e => (hlo.out k e).1)))
            go_roundw
            case rel => exact ⟨k + 1, va', vc', true, out ++ [(n1, d1)], by rw [show (out ++ [(n1, d1)]).length = m + 1 by rw [List.length_append, HM.out]; rfl], rfl, by go_num, by omega, zH HPN.out, zH (by rw [show (out ++ [(n1, d1)]).length = m + 1 by rw [List.length_append, HM.out]; rfl, scells_snoc]; exact HO7.out), HRn⟩
            case measure => simp [intOf]; omega
        · go_wp2_with fail
          clear k3
          refine wp_region_quiet_all (fun w' => Below (World.heap wr).size (wr) w') (by kernel_rfl) (by kernel_rfl) (Below.refl _ _).drew ?_
          refine WQ.out ?_
          repeat (first | (refine WQ_no (by rfl) ?_; (simp only [Act.put, zzT, zzO, zzS])) | (refine WQ_yes (by rfl) ?_; apply Exists.intro; refine ⟨fun w1 hb1 => ?_, ?_⟩; (focus (((have k1 := ((HR0.out.trans (hb1.mono HR0.out.size)).cell (p := ⟨ba, oa + k * 2, none⟩) hba).trans h1.out; have k2 := ((HR0.out.trans (hb1.mono HR0.out.size)).cell (p := ⟨ba, oa + k * 2 + 1, none⟩) hba).trans h2.out; obtain ⟨-, k3, -⟩ := K3.out.to (HR0.out.trans (hb1.mono HR0.out.size))); have hb1 := zH hb1; go_simp); (try (go_bits; try go_simp)); (try (rw [if_pos (by omega)]; try go_simp)); (first | done | (with_reducible rfl) | exact rfl))); (simp only [Act.put, zzT, zzO, zzS])))
          refine WQ_nil ?_
          intro w1 hb1
          have HOw := zH (owns_to HO.out hb1)
          replace HR0 := zH (HR0.out.trans (hb1.mono HR0.out.size))
          clear hb1 HO
          go_wp2_with fail
          cases dn
          · cases lt
            · obtain ⟨wx, hwx⟩ : ∃ x, x = w1 := ⟨_, rfl⟩
              subst hwx
              refine wp_region_quiet_all (fun w' => Below (World.heap wx).size (wx) w') (by kernel_rfl) (by kernel_rfl) (Below.refl _ _).drew ?_
              refine WQ.out ?_
              repeat (first | (refine WQ_no (by rfl) ?_; (simp only [Act.put, zzT, zzO, zzS])) | (refine WQ_yes (by rfl) ?_; apply Exists.intro; refine ⟨fun w1 hb1 => ?_, ?_⟩; (focus (((have k1 := ((HR0.out.trans (hb1.mono HR0.out.size)).cell (p := ⟨ba, oa + k * 2, none⟩) hba).trans h1.out; have k2 := ((HR0.out.trans (hb1.mono HR0.out.size)).cell (p := ⟨ba, oa + k * 2 + 1, none⟩) hba).trans h2.out; obtain ⟨-, k3, -⟩ := K3.out.to (HR0.out.trans (hb1.mono HR0.out.size))); have hb1 := zH hb1; go_simp); (try (go_bits; try go_simp)); (try (rw [if_pos (by omega)]; try go_simp)); (first | done | ((go_at_call 130; refine (HLS.out _).mono ?_; rintro e w' ⟨rfl, hb⟩; exact ⟨rfl, bThen hb1.out hb⟩)) | (with_reducible rfl) | exact rfl))); (simp only [Act.put, zzT, zzO, zzS])))
              refine WQ_nil ?_
              intro w1 hb1
              replace HOw := zH (owns_to HOw.out hb1)
              have HRw := zH (HR0.out.trans (hb1.mono HR0.out.size))
              clear hb1 HR0 HLS
              have HPN := zH (HGK.out (.inr rfl))
              clear HGK HLK
              have HROW := zH (HOw.out.alloc (.cells #[.int .i64 n1, .bool d1] 46))
              have HNN := zH (Blk.new w1 #[.int .i64 n1, .bool d1] 46).news
              have hlo := zH HOw.out.lt
              have hsw : W.heap.size ≤ w1.heap.size := HRw.out.size
              have k1 := (HRw.out.cell (p := ⟨ba, oa + k * 2, none⟩) hba).trans h1.out
              have k2 := (HRw.out.cell (p := ⟨ba, oa + k * 2 + 1, none⟩) hba).trans h2.out
              obtain ⟨-, k3, -⟩ := K3.out.to HRw.out
              go_wp2_with (at_builtin; go_loud (refine wpList_app W.heap.size rtSt rfl (.tmp 35) (.tmp 40) rfl _ m _ rfl HROW.out ⟨w1.heap.size, 0, none⟩ 1 1 [.int .i64 n1, .bool d1] rfl rfl (by simpa using HNN.out) (onesS [(n1, d1)]) (by unfold maxLen; omega) (by omega) (by simp; omega) ?_; intro v' w7 hown' hgrow _ hwhere; obtain ⟨va', vc', rfl⟩ := ownsRow_sl hown'; have HO7 := zH hown'; have HG7 := zH hgrow; clear hown' hgrow hwhere k1 k2 k3))
              have HRn : Hid (Below W.heap.size W w7) := zH (HRw.out.trans (((Below.refl _ _).alloc hsw _).grown HG7.out (by simp; omega) (fun k e => (hlo.out k e).1)))
              go_roundw
              case rel => exact ⟨k + 1, va', vc', false, out ++ [(n1, d1)], by rw [show (out ++ [(n1, d1)]).length = m + 1 by rw [List.length_append, HM.out]; rfl], rfl, by go_num, by omega, zH HPN.out, zH (by rw [show (out ++ [(n1, d1)]).length = m + 1 by rw [List.length_append, HM.out]; rfl, scells_snoc]; exact HO7.out), HRn⟩
              case measure => simp [intOf]; omega
            · obtain ⟨wx, hwx⟩ : ∃ x, x = w1 := ⟨_, rfl⟩
              subst hwx
              refine wp_region_quiet_all (fun w' => Below (World.heap wx).size (wx) w') (by kernel_rfl) (by kernel_rfl) (Below.refl _ _).drew ?_
              refine WQ.out ?_
              repeat (first | (refine WQ_no (by rfl) ?_; (simp only [Act.put, zzT, zzO, zzS])) | (refine WQ_yes (by rfl) ?_; apply Exists.intro; refine ⟨fun w1 hb1 => ?_, ?_⟩; (focus (((have k1 := ((HR0.out.trans (hb1.mono HR0.out.size)).cell (p := ⟨ba, oa + k * 2, none⟩) hba).trans h1.out; have k2 := ((HR0.out.trans (hb1.mono HR0.out.size)).cell (p := ⟨ba, oa + k * 2 + 1, none⟩) hba).trans h2.out; obtain ⟨-, k3, -⟩ := K3.out.to (HR0.out.trans (hb1.mono HR0.out.size))); have hb1 := zH hb1; go_simp); (try (go_bits; try go_simp)); (try (rw [if_pos (by omega)]; try go_simp)); (first | done | ((go_at_call 130; refine (HLS.out _).mono ?_; rintro e w' ⟨rfl, hb⟩; exact ⟨rfl, bThen hb1.out hb⟩)) | (with_reducible rfl) | exact rfl))); (simp only [Act.put, zzT, zzO, zzS])))
              refine WQ_nil ?_
              intro w1 hb1
              replace HOw := zH (owns_to HOw.out hb1)
              have HRw := zH (HR0.out.trans (hb1.mono HR0.out.size))
              clear hb1 HR0 HLS
              have HPN := zH (HLK.out rfl rfl)
              clear HGK HLK
              have HROW := zH (HOw.out.alloc (.cells #[.int .i64 n1, .bool s2] 46))
              have HNN := zH (Blk.new w1 #[.int .i64 n1, .bool s2] 46).news
              have hlo := zH HOw.out.lt
              have hsw : W.heap.size ≤ w1.heap.size := HRw.out.size
              have k1 := (HRw.out.cell (p := ⟨ba, oa + k * 2, none⟩) hba).trans h1.out
              have k2 := (HRw.out.cell (p := ⟨ba, oa + k * 2 + 1, none⟩) hba).trans h2.out
              obtain ⟨-, k3, -⟩ := K3.out.to HRw.out
              go_upto_region 10 with (at_builtin; go_loud (refine wpList_app W.heap.size rtSt rfl (.tmp 31) (.tmp 33) rfl _ m _ rfl HROW.out ⟨w1.heap.size, 0, none⟩ 1 1 [.int .i64 n1, .bool s2] rfl rfl (by simpa using HNN.out) (onesS [(n1, s2)]) (by unfold maxLen; omega) (by omega) (by simp; omega) ?_; intro v' w6 hown' hgrow _ hwhere; obtain ⟨va', vc', rfl⟩ := ownsRow_sl hown'; have HO7 := zH hown'; have HG7 := zH hgrow; clear hown' hgrow hwhere k1 k2 k3))
              have HR6 : Hid (Below W.heap.size W w6) := zH (HRw.out.trans (((Below.refl _ _).alloc hsw _).grown HG7.out (by simp; omega) (fun k e => (hlo.out k e).1)))
              have HO6 := zH HO7.out
              replace HRw := zH HR6.out
              clear HR6 HROW HNN hlo hsw HOw HG7 HO7
              have HROW := zH (HO6.out.alloc (.cells #[.int .i64 n1, .bool d1] 46))
              have HNN := zH (Blk.new w6 #[.int .i64 n1, .bool d1] 46).news
              have hlo := zH HO6.out.lt
              have hsw : W.heap.size ≤ w6.heap.size := HRw.out.size
              have k1 := (HRw.out.cell (p := ⟨ba, oa + k * 2, none⟩) hba).trans h1.out
              have k2 := (HRw.out.cell (p := ⟨ba, oa + k * 2 + 1, none⟩) hba).trans h2.out
              obtain ⟨-, k3, -⟩ := K3.out.to HRw.out
              go_wp2_with (at_builtin; go_loud (refine wpList_app W.heap.size rtSt rfl (.tmp 35) (.tmp 40) rfl _ (m + 1) _ rfl HROW.out ⟨w6.heap.size, 0, none⟩ 1 1 [.int .i64 n1, .bool d1] rfl rfl (by simpa using HNN.out) (onesS [(n1, d1)]) (by unfold maxLen; omega) (by omega) (by simp; omega) ?_; intro v' w7 hown' hgrow _ hwhere; obtain ⟨va', vc', rfl⟩ := ownsRow_sl hown'; have HO7 := zH hown'; have HG7 := zH hgrow; clear hown' hgrow hwhere k1 k2 k3))
              have HRn : Hid (Below W.heap.size W w7) := zH (HRw.out.trans (((Below.refl _ _).alloc hsw _).grown HG7.out (by simp; omega) (fun k e => (hlo.out k e).1)))
              go_roundw
              case rel => exact ⟨k + 1, va', vc', true, out ++ [(n1, s2)] ++ [(n1, d1)], by rw [show (out ++ [(n1, s2)] ++ [(n1, d1)]).length = m + 1 + 1 by rw [List.length_append, List.length_append, HM.out]; rfl], rfl, by go_num, by omega, zH HPN.out, zH (by rw [show (out ++ [(n1, s2)] ++ [(n1, d1)]).length = m + 1 + 1 by rw [List.length_append, List.length_append, HM.out]; rfl, scells_snoc, scells_snoc]; exact HO7.out), HRn⟩
              case measure => simp [intOf]; omega
          · obtain ⟨wx, hwx⟩ : ∃ x, x = w1 := ⟨_, rfl⟩
            subst hwx
            refine wp_region_quiet_all (fun w' => Below (World.heap wx).size (wx) w') (by kernel_rfl) (by kernel_rfl) (Below.refl _ _).drew ?_
            refine WQ.out ?_
            repeat (first | (refine WQ_no (by rfl) ?_; (simp only [Act.put, zzT, zzO, zzS])) | (refine WQ_yes (by rfl) ?_; apply Exists.intro; refine ⟨fun w1 hb1 => ?_, ?_⟩; (focus (((have k1 := ((HR0.out.trans (hb1.mono HR0.out.size)).cell (p := ⟨ba, oa + k * 2, none⟩) hba).trans h1.out; have k2 := ((HR0.out.trans (hb1.mono HR0.out.size)).cell (p := ⟨ba, oa + k * 2 + 1, none⟩) hba).trans h2.out; obtain ⟨-, k3, -⟩ := K3.out.to (HR0.out.trans (hb1.mono HR0.out.size))); have hb1 := zH hb1; go_simp); (try (go_bits; try go_simp)); (try (rw [if_pos (by omega)]; try go_simp)); (first | done | (with_reducible rfl) | exact rfl))); (simp only [Act.put, zzT, zzO, zzS])))
            refine WQ_nil ?_
            intro w1 hb1
            replace HOw := zH (owns_to HOw.out hb1)
            have HRw := zH (HR0.out.trans (hb1.mono HR0.out.size))
            clear hb1 HR0 HLS
            have HPN := zH (HGK.out (.inl rfl))
            clear HGK HLK
            have HROW := zH (HOw.out.alloc (.cells #[.int .i64 n1, .bool d1] 46))
            have HNN := zH (Blk.new w1 #[.int .i64 n1, .bool d1] 46).news
            have hlo := zH HOw.out.lt
            have hsw : W.heap.size ≤ w1.heap.size := HRw.out.size
            have k1 := (HRw.out.cell (p := ⟨ba, oa + k * 2, none⟩) hba).trans h1.out
            have k2 := (HRw.out.cell (p := ⟨ba, oa + k * 2 + 1, none⟩) hba).trans h2.out
            obtain ⟨-, k3, -⟩ := K3.out.to HRw.out
            go_wp2_with (at_builtin; go_loud (refine wpList_app W.heap.size rtSt rfl (.tmp 35) (.tmp 40) rfl _ m _ rfl HROW.out ⟨w1.heap.size, 0, none⟩ 1 1 [.int .i64 n1, .bool d1] rfl rfl (by simpa using HNN.out) (onesS [(n1, d1)]) (by unfold maxLen; omega) (by omega) (by simp; omega) ?_; intro v' w7 hown' hgrow _ hwhere; obtain ⟨va', vc', rfl⟩ := ownsRow_sl hown'; have HO7 := zH hown'; have HG7 := zH hgrow; clear hown' hgrow hwhere k1 k2 k3))
            have HRn : Hid (Below W.heap.size W w7) := zH (HRw.out.trans (((Below.refl _ _).alloc hsw _).grown HG7.out (by simp; omega) (fun k e => (hlo.out k e).1)))
            go_roundw
            case rel => exact ⟨k + 1, va', vc', true, out ++ [(n1, d1)], by rw [show (out ++ [(n1, d1)]).length = m + 1 by rw [List.length_append, HM.out]; rfl], rfl, by go_num, by omega, zH HPN.out, zH (by rw [show (out ++ [(n1, d1)]).length = m + 1 by rw [List.length_append, HM.out]; rfl, scells_snoc]; exact HO7.out), HRn⟩
            case measure => simp [intOf]; omega
    · obtain rfl : n = k := by omega
      have hf := HFN.out dn out HP.out
      have HOw := zH HO.out
      have HRw := zH HR0.out
      cases dn with
      | true =>
        rw [if_pos rfl] at hf
        obtain ⟨a', cap', e, hcp, hrd, hfr⟩ := Reads.of_row (f := osts out) HOw.out (fun i hi => scells_get out i (by rw [HM.out]; exact hi))
        cases e
        go_wp2_with fail
        go_ret
        refine ⟨va, vc, ?_, ?_, ?_, bThen HB.out HRw.out⟩
        · rw [hf, HM.out]; rfl
        · rw [hf, HM.out]; exact hcp
        · rw [hf, HM.out]; exact hrd
      | false =>
        rw [if_neg (by decide)] at hf
        have HROW := zH (HOw.out.alloc (.cells #[.int .i64 s1, .bool s2] 46))
        have HNN := zH (Blk.new wr #[.int .i64 s1, .bool s2] 46).news
        have hlo := zH HOw.out.lt
        have hsw : W.heap.size ≤ wr.heap.size := HRw.out.size
        have hll : (out ++ [(s1, s2)]).length = m + 1 := by rw [List.length_append, HM.out]; rfl
        have HLL := zH hll
        clear hll
        go_wp2_with (at_builtin; go_loud (refine wpList_app W.heap.size rtSt rfl (.tmp 44) (.tmp 46) rfl _ m _ rfl HROW.out ⟨wr.heap.size, 0, none⟩ 1 1 [.int .i64 s1, .bool s2] rfl rfl (by simpa using HNN.out) (onesS [(s1, s2)]) (by unfold maxLen; omega) (by omega) (by simp; omega) ?_; intro v' w7 hown' hgrow _ hwhere; obtain ⟨va', vc', rfl⟩ := ownsRow_sl hown'; have HO7 := zH hown'; have HG7 := zH hgrow; clear hown' hgrow hwhere k3))
        have HRn : Hid (Below W.heap.size W w7) := zH (HRw.out.trans (((Below.refl _ _).alloc hsw _).grown HG7.out (by simp; omega) (fun k e => (hlo.out k e).1)))
        have hrow := HO7.out
        have hsc : scells out ++ [.int .i64 s1, .bool s2] = scells (out ++ [(s1, s2)]) := (scells_snoc out (s1, s2)).symm
        rw [hsc] at hrow
        obtain ⟨a', cap', e, hcp, hrd, hfr⟩ := Reads.of_row (f := osts (out ++ [(s1, s2)])) hrow (fun i hi => scells_get _ i (by rw [HLL.out]; exact hi))
        cases e
        go_ret
        refine ⟨va', vc', ?_, ?_, ?_, bThen HB.out HRn.out⟩
        · rw [hf, HLL.out]; rfl
        · rw [hf, HLL.out]; exact hcp
        · rw [hf, HLL.out]; exact hrd
end
section
open Go.RowKit
attribute [local go_sem] Oper.semAt_some

/-- One demand after one state. -/
def aftF (p : Plt) (s : OSt) (o : List OSt) (n : Int) : List OSt := match nxtA p s n with | none => o | some t => putS o t
def aftG (p : Plt) (r : Int × Int) (o : List OSt) (s : OSt) : List OSt := (rngL r).foldl (aftF p s) o
theorem putS_len (s : OSt) : ∀ l : List OSt, (putS l s).length ≤ l.length + 1
  | [] => by simp [putS]
  | x :: l => by
    rw [putS_cons]
    split
    · simp
    · split
      · simp
      · have := putS_len s l
        simp only [List.length_cons]
        omega
theorem rngL_drop {r : Int × Int} {j : Nat} (h : r.1 + (j : Int) ≤ r.2) : (rngL r).drop j = (r.1 + (j : Int)) :: (rngL r).drop (j + 1) := by
  have hl : j < (rngL r).length := by unfold rngL; rw [List.length_map, List.length_range]; omega
  rw [List.drop_eq_getElem_cons hl]
  congr 1
  simp [rngL]
theorem rngL_end {r : Int × Int} {j : Nat} (h : r.2 < r.1 + (j : Int)) : (rngL r).drop j = [] := by
  refine List.drop_eq_nil_of_le ?_
  unfold rngL
  rw [List.length_map, List.length_range]
  omega
def nnB (p : Plt) (s : OSt) (n : Int) : Bool := (nxtA p s n).isNone
/-- Within a state: the demands so far. -/
structure AfI (p : Plt) (r : Int × Int) (l : List OSt) (i j : Nat) (o : List OSt) (wh : Bool) : Prop where
  eq : aftR p r l = (l.drop (i + 1)).foldl (aftG p r) (((rngL r).drop j).foldl (aftF p (sg l i)) o)
  em : EmpB p r l = (!wh || ((rngL r).drop j).any (nnB p (sg l i)) || EmpB p r (l.drop (i + 1)))
  srt : SrtS o
  len : o.length ≤ 51 * i + j
/-- Between states. -/
structure AfO (p : Plt) (r : Int × Int) (l : List OSt) (i : Nat) (o : List OSt) (wh : Bool) : Prop where
  eq : aftR p r l = (l.drop i).foldl (aftG p r) o
  em : EmpB p r l = (!wh || EmpB p r (l.drop i))
  srt : SrtS o
  len : o.length ≤ 51 * i
theorem AfO.start (p : Plt) (r : Int × Int) (l : List OSt) : AfO p r l 0 [] true := ⟨rfl, by simp, List.Pairwise.nil, by simp⟩
theorem AfO.into {p : Plt} {r : Int × Int} {l : List OSt} {i : Nat} {o : List OSt} {wh : Bool} (h : AfO p r l i o wh) (hi : i < l.length) : AfI p r l i 0 o wh := by
  refine ⟨?_, ?_, h.srt, by have := h.len; omega⟩
  · rw [h.eq, drop_sg hi, List.foldl_cons]
    rfl
  · rw [h.em, drop_sg hi]
    unfold EmpB
    rw [List.any_cons, Bool.or_assoc]
    rfl
theorem AfI.out {p : Plt} {r : Int × Int} {l : List OSt} {i j : Nat} {o : List OSt} {wh : Bool} (h : AfI p r l i j o wh) (hj : r.2 < r.1 + (j : Int)) (hj2 : j ≤ 51) : AfO p r l (i + 1) o wh := by
  have e := rngL_end hj
  refine ⟨?_, ?_, h.srt, by have := h.len; omega⟩
  · rw [h.eq, e]; rfl
  · rw [h.em, e]; simp
theorem AfI.none {p : Plt} {r : Int × Int} {l : List OSt} {i j : Nat} {o : List OSt} {wh : Bool} (h : AfI p r l i j o wh) (hj : r.1 + (j : Int) ≤ r.2) (hn : nxtA p (sg l i) (r.1 + (j : Int)) = none) : AfI p r l i (j + 1) o false := by
  refine ⟨?_, ?_, h.srt, by have := h.len; omega⟩
  · rw [h.eq, rngL_drop hj, List.foldl_cons]
    unfold aftF
    rw [hn]
  · rw [h.em, rngL_drop hj, List.any_cons]
    unfold nnB
    rw [hn]
    simp
theorem AfI.some {p : Plt} {r : Int × Int} {l : List OSt} {i j : Nat} {o : List OSt} {wh : Bool} {t : OSt} (h : AfI p r l i j o wh) (hj : r.1 + (j : Int) ≤ r.2) (hn : nxtA p (sg l i) (r.1 + (j : Int)) = some t) : AfI p r l i (j + 1) (putS o t) wh := by
  refine ⟨?_, ?_, srt_putS h.srt, by have := h.len; have := putS_len t o; omega⟩
  · rw [h.eq, rngL_drop hj, List.foldl_cons]
    have : aftF p (sg l i) o (r.1 + (j : Int)) = putS o t := by unfold aftF; rw [hn]
    rw [this]
  · rw [h.em, rngL_drop hj, List.any_cons]
    have : nnB p (sg l i) (r.1 + (j : Int)) = false := by unfold nnB; rw [hn]; rfl
    rw [this, Bool.false_or]
theorem AfO.fin {p : Plt} {r : Int × Int} {l : List OSt} {o : List OSt} {wh : Bool} (h : AfO p r l l.length o wh) : aftR p r l = o ∧ (!EmpB p r l) = wh := by
  refine ⟨?_, ?_⟩
  · rw [h.eq, List.drop_length]; rfl
  · rw [h.em, List.drop_length]
    unfold EmpB
    simp

def AftPost (p : Plt) (r : Int × Int) (l : List OSt) (w : World) (e : Ending) (w' : World) : Prop :=
  ∃ a' c', e = .returned (.tuple #[.slice a' (aftR p r l).length c', .bool (!EmpB p r l)]) ∧ (aftR p r l).length ≤ c' ∧ Reads w' a' ((aftR p r l).length * 2) (osts (aftR p r l)) ∧ Below w.heap.size w w'

set_option maxHeartbeats 12800000 in
set_option maxRecDepth 100000 in
theorem rAfter_any (p : Plt) (r : Int × Int) (l : List OSt) (a al : Option Addr) (cap cl : Nat) (w : World) (hp : PltOk p) (hrg : 0 ≤ r.1 ∧ r.2 ≤ 50) (hst : ∀ k, k < l.length → StOk p (sg l k)) (hlen : l.length ≤ 1000) (hr : Reads w a (p.pts.length * 2) (fracs p.pts)) (hrl : Reads w al (l.length * 2) (osts l)) :
    Calls Tryz.prog 149 #[.agg (plC p a cap), .slice al l.length cl, .agg #[.int .i64 r.1, .int .i64 r.2]] w (AftPost p r l w) := by
  have HNX := zH (fun W k (hk : k < l.length) d (hd : 0 ≤ d ∧ d ≤ 50) (hb : Below w.heap.size w W) => rnNext_any p (sg l k) d a cap W hp (hst k hk) hd (hr.to hb))
  have HA := zH hrl
  have HIN := zH (fun i o wh (h : AfO p r l i o wh) hi => h.into hi)
  have HOUT := zH (fun i j o wh (h : AfI p r l i j o wh) hj hj2 => h.out hj hj2)
  have HNO := zH (fun i j o wh (h : AfI p r l i j o wh) hj hn => h.none hj hn)
  have HSO := zH (fun i j o wh t (h : AfI p r l i j o wh) hj hn => h.some (t := t) hj hn)
  have HFN := zH (fun o wh (h : AfO p r l l.length o wh) => h.fin)
  have HST := zH (AfO.start p r l)
  obtain ⟨n, hn⟩ : ∃ n, l.length = n := ⟨_, rfl⟩
  rw [hn] at HNX HA HIN HFN hlen ⊢
  obtain ⟨r1, r2⟩ := r
  obtain ⟨hr0, hr1⟩ := hrg
  dsimp only at hr0 hr1 HOUT HNO HSO ⊢
  unfold plC at HNX ⊢
  clear hr hrl hn hst
  go_enter Tryz.func149, Tryz.ntmps149
  go_wp2_with fail
  obtain ⟨W, hW⟩ : ∃ W, (w.alloc (.cells #[.slice a p.pts.length cap, .int .i64 p.pump, .int .i64 p.on, .int .i64 p.off] 44)).alloc (.cells #[.int .i64 r1, .int .i64 r2] 25) = W := ⟨_, rfl⟩
  rw [hW]
  have K3 : Hid (Blk W w.heap.size #[.slice a p.pts.length cap, .int .i64 p.pump, .int .i64 p.on, .int .i64 p.off]) := by subst hW; exact zH ((Blk.new _ _ _).alloc _)
  have K5 : Hid (Blk W (w.heap.size + 1) #[.int .i64 r1, .int .i64 r2]) := by subst hW; exact zH (Blk.newAt _ _ _ (by simp))
  have HB : Hid (Below w.heap.size w W) := by subst hW; exact zH (bAlloc (bAlloc (bSelf w) _) _)
  replace HA := zH (HA.out.to HB.out)
  clear hW
  go_loopw [8, 9, 10, 11, 12, 13] (fun s8 s9 s10 _ _ _ wr => ∃ (i : Nat) (va : Option Addr) (vc : Nat) (wh : Bool) (o : List OSt), s8 = .slice va o.length vc ∧ s9 = .bool wh ∧ s10 = .int .i64 i ∧ i ≤ n ∧ o.length ≤ vc ∧ Hid (AfO p (r1, r2) l i o wh) ∧ Hid (Reads wr va (o.length * 2) (osts o)) ∧ Hid (Below W.heap.size W wr)) (fun _ _ s10 _ _ _ _ => n - (intOf s10).toNat)
  case atStart => exact ⟨0, none, 0, true, [], rfl, rfl, rfl, Nat.zero_le _, Nat.zero_le _, HST, zH (.inl rfl), zH (bSelf W)⟩
  case round =>
    obtain ⟨i, va, vc, wh, o, rfl, rfl, rfl, hi, hvc, HP, HRo, HR0⟩ := hrel
    by_cases hlt : i < n
    · have HPI := zH (HIN.out i o wh HP.out hlt)
      obtain ⟨wv, hwv⟩ : ∃ wv, wv = wr := ⟨_, rfl⟩
      subst hwv
      obtain ⟨ba, oa, rfl, hba, hca⟩ := HA.out.at (k := i * 2) (by omega)
      obtain ⟨⟨n1, d1⟩, hz⟩ : ∃ q, sg l i = q := ⟨_, rfl⟩
      have h1 : Hid (W.cell? ⟨ba, oa + i * 2, none⟩ = some (.int .i64 n1)) := zH (by rw [hca _ (by omega), osts0, hz])
      have h2 : Hid (W.cell? ⟨ba, oa + i * 2 + 1, none⟩ = some (.bool d1)) := zH (by rw [Nat.add_assoc, hca _ (by omega), osts1, hz])
      have HNK := zH (fun W d hd hb => HNX.out W i hlt d hd hb)
      have HOK := zH (fun j o wh h hj hj2 => HOUT.out i j o wh h hj hj2)
      have HNOK := zH (fun j o wh h hj hn => HNO.out i j o wh h hj hn)
      have HSOK := zH (fun j o wh t h hj hn => HSO.out i j o wh t h hj hn)
      rw [hz] at HNK HNOK HSOK
      dsimp only at HNK
      clear hca hz HNX HOUT HNO HSO HFN HST HIN HP
      obtain ⟨-, k5, -⟩ := K5.out.to HR0.out
      go_wp2_with fail
      clear k5
      go_loopw [8, 9, 11, 12, 13] (fun s8 s9 s11 _ _ wr => ∃ (j : Nat) (va : Option Addr) (vc : Nat) (wh : Bool) (o : List OSt), s8 = .slice va o.length vc ∧ s9 = .bool wh ∧ s11 = .int .i64 (r1 + (j : Int)) ∧ j ≤ 51 ∧ o.length ≤ vc ∧ Hid (AfI p (r1, r2) l i j o wh) ∧ Hid (Reads wr va (o.length * 2) (osts o)) ∧ Hid (Below W.heap.size W wr)) (fun _ _ s11 _ _ _ => (r2 + 1 - intOf s11).toNat)
      case atStart => exact ⟨0, va, vc, wh, o, rfl, rfl, by go_num, Nat.zero_le _, hvc, HPI, HRo, HR0⟩
      case round =>
        clear HPI HRo HR0 hvc
        obtain ⟨j, va, vc, wh, o, rfl, rfl, rfl, hj, hvc, HP, HRo, HR0⟩ := hrel
        obtain ⟨-, k5, -⟩ := K5.out.to HR0.out
        by_cases hle : r1 + (j : Int) ≤ r2
        · obtain ⟨d, hd⟩ : ∃ d, r1 + (j : Int) = d := ⟨_, rfl⟩
          have hd0 : 0 ≤ d := by omega
          have hd1 : d ≤ 50 := by omega
          have HNN := zH (fun h => HNOK.out j o wh HP.out hle h)
          have HSS := zH (fun t h => HSOK.out j o wh t HP.out hle h)
          have HND := zH (fun W hb => HNK.out W d ⟨hd0, hd1⟩ hb)
          have HSR := zH HP.out.srt
          have HLN := zH HP.out.len
          have HDD : Hid (d + 1 = r1 + ((j + 1 : Nat) : Int)) := zH (by omega)
          have hdr : d ≤ r2 := by omega
          have hjn : j + 1 ≤ 51 := by omega
          rw [hd] at HNN HSS ⊢
          clear hd hle
          obtain ⟨nx, hnx⟩ : ∃ x, nxtA p (n1, d1) d = x := ⟨_, rfl⟩
          rw [hnx] at HND HNN HSS
          clear hnx HP HNOK HSOK HNK HOK
          obtain ⟨⟨t1, t2⟩, ht⟩ : ∃ x, nx.getD (0, false) = x := ⟨_, rfl⟩
          have HT := zH ht
          rw [ht] at HND
          dsimp only at HND
          clear ht
          obtain ⟨wu, hwu⟩ : ∃ wu, wu = wr := ⟨_, rfl⟩
          subst hwu
          go_wp2_with fail
          clear k5
          go_cut [12, 13] from 28 to 37 (fun s12 s13 wc => ∃ B, s12 = .pointer (some ⟨B, 0, none⟩) ∧ s13 = .bool nx.isSome ∧ Hid (Blk wc B #[.int .i64 t1, .bool t2]) ∧ Hid (Below wu.heap.size wu wc))
          case first =>
            have K3u := zH (K3.out.to HR0.out)
            have hbu : ba < wu.heap.size := Nat.lt_of_lt_of_le hba HR0.out.size
            have C0 : Hid (wu.cell? ⟨ba, oa + i * 2, none⟩ = some (.int .i64 n1)) := zH ((HR0.out.cell (p := ⟨ba, oa + i * 2, none⟩) hba).trans h1.out)
            have C1 : Hid (wu.cell? ⟨ba, oa + i * 2 + 1, none⟩ = some (.bool d1)) := zH ((HR0.out.cell (p := ⟨ba, oa + i * 2 + 1, none⟩) hba).trans h2.out)
            have HBu := zH (bThen HB.out HR0.out)
            refine wp_region_tree (by kernel_rfl) (fun wd hwd => ?_)
            have T := zH hwd
            clear hwd
            refine WTq 0 ?_; apply Exists.intro; refine ⟨fun w1 hb1 => ?_, ?_⟩; (focus (((obtain ⟨-, k3, -⟩ := K3u.out.to (T.out.trans hb1)); have hb1 := zH hb1; go_simp); (try (go_bits; try go_simp)); (try (rw [if_pos (by omega)]; try go_simp)); (first | done | (with_reducible rfl) | exact rfl)))
            simp only [Act.put, zzT, zzO, zzS]
            refine WTq 1 ?_; apply Exists.intro; refine ⟨fun w1 hb1 => ?_, ?_⟩; (focus ((have hb1 := zH hb1; go_simp); (try (go_bits; try go_simp)); (try (rw [if_pos (by omega)]; try go_simp)); (first | done | (with_reducible rfl) | exact rfl)))
            simp only [Act.put, zzT, zzO, zzS]
            refine WTq 2 ?_; apply Exists.intro; refine ⟨fun w1 hb1 => ?_, ?_⟩; (focus ((have hb1 := zH hb1; go_simp); (try (go_bits; try go_simp)); (try (rw [if_pos (by omega)]; try go_simp)); (first | done | (with_reducible rfl) | exact rfl)))
            simp only [Act.put, zzT, zzO, zzS]
            refine WTq 3 ?_; apply Exists.intro; refine ⟨fun w1 hb1 => ?_, ?_⟩; (focus ((have hb1 := zH hb1; go_simp); (try (go_bits; try go_simp)); (try (rw [if_pos (by omega)]; try go_simp)); (first | done | (with_reducible rfl) | exact rfl)))
            simp only [Act.put, zzT, zzO, zzS]
            refine WTq 4 ?_; apply Exists.intro; refine ⟨fun w1 hb1 => ?_, ?_⟩; (focus (((have c0 := ((T.out.trans hb1).cell (p := ⟨ba, oa + i * 2, none⟩) hbu).trans C0.out; have c1 := ((T.out.trans hb1).cell (p := ⟨ba, oa + i * 2 + 1, none⟩) hbu).trans C1.out); have hb1 := zH hb1; go_simp); (try (go_bits; try go_simp)); (try (rw [if_pos (by omega)]; try go_simp)); (first | done | (with_reducible rfl) | exact rfl)))
            simp only [Act.put, zzT, zzO, zzS]
            refine WTq 5 ?_; apply Exists.intro; refine ⟨fun w1 hb1 => ?_, ?_⟩; (focus ((have hb1 := zH hb1; go_simp); (try (go_bits; try go_simp)); (try (rw [if_pos (by omega)]; try go_simp)); (first | done | (with_reducible rfl) | exact rfl)))
            simp only [Act.put, zzT, zzO, zzS]
            refine WT_two 6 10 rfl rfl (by kernel_rfl) ?_ ?_
            · unfold stepT
              go_wp2_with fail
              refine (HND.out _ (bThen HBu.out T.out)).mono ?_
              rintro e u1 ⟨rfl, hb⟩
              have hbd := zH (hb.mono T.out.size)
              replace T := zH (bThen T.out hb)
              clear hb
              go_wp2_with fail
              refine ⟨hbd.out, ?_⟩
              clear hbd
              refine WTq 7 ?_; apply Exists.intro; refine ⟨fun w1 hb1 => ?_, ?_⟩; (focus ((have hb1 := zH hb1; go_simp); (try (go_bits; try go_simp)); (try (rw [if_pos (by omega)]; try go_simp)); (first | done | (with_reducible rfl) | exact rfl)))
              simp only [Act.put, zzT, zzO, zzS]
              refine WTq 8 ?_; apply Exists.intro; refine ⟨fun w1 hb1 => ?_, ?_⟩; (focus ((have hb1 := zH hb1; go_simp); (try (go_bits; try go_simp)); (try (rw [if_pos (by omega)]; try go_simp)); (first | done | (with_reducible rfl) | exact rfl)))
              simp only [Act.put, zzT, zzO, zzS]
              refine WTq 9 ?_; apply Exists.intro; refine ⟨fun w1 hb1 => ?_, ?_⟩; (focus ((have hb1 := zH hb1; go_simp); (try (go_bits; try go_simp)); (try (rw [if_pos (by omega)]; try go_simp)); (first | done | (with_reducible rfl) | exact rfl)))
              simp only [Act.put, zzT, zzO, zzS]
              refine WT_one 10 rfl (by kernel_rfl) ?_
              unfold stepT
              go_wp2_with fail
              obtain ⟨u2, hwA⟩ : ∃ wA, u1.alloc (.cells #[.int .i64 0, .bool false] 46) = wA := ⟨_, rfl⟩
              rw [hwA]
              have hb : Below u1.heap.size u1 u2 := by subst hwA; exact bAlloc (bSelf _) _
              have KBN : Hid (Blk u2 u1.heap.size #[.int .i64 0, .bool false]) := by subst hwA; exact Blk.new _ _ _
              clear hwA
              have BNN : Hid (wu.heap.size ≤ u1.heap.size) := zH T.out.size
              obtain ⟨BN, hBN⟩ : ∃ N, u1.heap.size = N := ⟨_, rfl⟩
              have hbd := zH (hb.mono T.out.size)
              replace T := zH (bThen T.out hb)
              clear hb
              rw [hBN] at KBN BNN  ⊢
              clear hBN
              refine ⟨hbd.out, ?_⟩
              clear hbd
              refine WT_one 11 rfl (by kernel_rfl) ?_
              unfold stepT
              obtain ⟨-, kx, fx⟩ := KBN.out
              go_wp2_with fail
              clear kx fx
              obtain ⟨u3, hu⟩ : ∃ u, (u2.setCell ⟨BN, 0, none⟩ (.int .i64 t1)).setCell ⟨BN, 1, none⟩ (.bool t2) = u := ⟨_, rfl⟩
              have hb : Below wu.heap.size u2 u3 := by rw [← hu]; exact ((Below.refl _ _).setCell (p := ⟨BN, 0, none⟩) BNN.out _).setCell (p := ⟨BN, 1, none⟩) BNN.out _
              replace KBN := zH ((KBN.out.set 0 (.int .i64 t1)).set 1 (.bool t2))
              rw [hu] at KBN ⊢
              clear hu
              replace T := zH (T.out.trans hb)
              refine ⟨hb, ?_⟩
              clear hb
              refine WTq 12 ?_; apply Exists.intro; refine ⟨fun w1 hb1 => ?_, ?_⟩; (focus ((have hb1 := zH hb1; go_simp); (try (go_bits; try go_simp)); (try (rw [if_pos (by omega)]; try go_simp)); (first | done | (with_reducible rfl) | exact rfl)))
              simp only [Act.put, zzT, zzO, zzS]
              refine WT_done (by kernel_rfl) ?_
              go_wp2_with fail
              go_meet
              case rel => exact ⟨BN, rfl, rfl, KBN, T⟩
            · unfold stepT
              go_wp2_with fail
              obtain ⟨u1, hwA⟩ : ∃ wA, wd.alloc (.cells #[.int .i64 0, .bool false] 46) = wA := ⟨_, rfl⟩
              rw [hwA]
              have hb : Below wd.heap.size wd u1 := by subst hwA; exact bAlloc (bSelf _) _
              have KBN : Hid (Blk u1 wd.heap.size #[.int .i64 0, .bool false]) := by subst hwA; exact Blk.new _ _ _
              clear hwA
              have BNN : Hid (wu.heap.size ≤ wd.heap.size) := zH T.out.size
              obtain ⟨BN, hBN⟩ : ∃ N, wd.heap.size = N := ⟨_, rfl⟩
              have hbd := zH (hb.mono T.out.size)
              replace T := zH (bThen T.out hb)
              clear hb
              rw [hBN] at KBN BNN  ⊢
              clear hBN
              refine ⟨hbd.out, ?_⟩
              clear hbd
              refine WT_one 6 rfl (by kernel_rfl) ?_
              unfold stepT
              go_wp2_with fail
              refine (HND.out _ (bThen HBu.out T.out)).mono ?_
              rintro e u2 ⟨rfl, hb⟩
              replace KBN := zH (KBN.out.to hb)
              have hbd := zH (hb.mono T.out.size)
              replace T := zH (bThen T.out hb)
              clear hb
              go_wp2_with fail
              refine ⟨hbd.out, ?_⟩
              clear hbd
              refine WTq 7 ?_; apply Exists.intro; refine ⟨fun w1 hb1 => ?_, ?_⟩; (focus ((have hb1 := zH hb1; go_simp); (try (go_bits; try go_simp)); (try (rw [if_pos (by omega)]; try go_simp)); (first | done | (with_reducible rfl) | exact rfl)))
              simp only [Act.put, zzT, zzO, zzS]
              refine WTq 8 ?_; apply Exists.intro; refine ⟨fun w1 hb1 => ?_, ?_⟩; (focus ((have hb1 := zH hb1; go_simp); (try (go_bits; try go_simp)); (try (rw [if_pos (by omega)]; try go_simp)); (first | done | (with_reducible rfl) | exact rfl)))
              simp only [Act.put, zzT, zzO, zzS]
              refine WTq 9 ?_; apply Exists.intro; refine ⟨fun w1 hb1 => ?_, ?_⟩; (focus ((have hb1 := zH hb1; go_simp); (try (go_bits; try go_simp)); (try (rw [if_pos (by omega)]; try go_simp)); (first | done | (with_reducible rfl) | exact rfl)))
              simp only [Act.put, zzT, zzO, zzS]
              refine WT_one 11 rfl (by kernel_rfl) ?_
              unfold stepT
              obtain ⟨-, kx, fx⟩ := KBN.out
              go_wp2_with fail
              clear kx fx
              obtain ⟨u3, hu⟩ : ∃ u, (u2.setCell ⟨BN, 0, none⟩ (.int .i64 t1)).setCell ⟨BN, 1, none⟩ (.bool t2) = u := ⟨_, rfl⟩
              have hb : Below wu.heap.size u2 u3 := by rw [← hu]; exact ((Below.refl _ _).setCell (p := ⟨BN, 0, none⟩) BNN.out _).setCell (p := ⟨BN, 1, none⟩) BNN.out _
              replace KBN := zH ((KBN.out.set 0 (.int .i64 t1)).set 1 (.bool t2))
              rw [hu] at KBN ⊢
              clear hu
              replace T := zH (T.out.trans hb)
              refine ⟨hb, ?_⟩
              clear hb
              refine WTq 12 ?_; apply Exists.intro; refine ⟨fun w1 hb1 => ?_, ?_⟩; (focus ((have hb1 := zH hb1; go_simp); (try (go_bits; try go_simp)); (try (rw [if_pos (by omega)]; try go_simp)); (first | done | (with_reducible rfl) | exact rfl)))
              simp only [Act.put, zzT, zzO, zzS]
              refine WT_done (by kernel_rfl) ?_
              go_wp2_with fail
              go_meet
              case rel => exact ⟨BN, rfl, rfl, KBN, T⟩
          obtain ⟨wz, hwz⟩ : ∃ wo, wo = wc := ⟨_, rfl⟩
          subst hwz
          obtain ⟨B12, rfl, rfl, K12, hb⟩ := hcut
          replace hb := hb.out
          replace HRo := zH (HRo.out.to hb)
          replace HR0 := zH (HR0.out.trans (hb.mono HR0.out.size))
          clear hb HND
          cases nx with
          | none =>
            have HPN := zH (HNN.out rfl)
            clear HNN HSS
            go_wp2_with fail
            go_roundw
            case rel => exact ⟨j + 1, va, vc, false, o, rfl, rfl, by rw [← HDD.out], hjn, hvc, HPN, HRo, HR0⟩
            case measure => simp [intOf]; omega
          | some t =>
            have HPN := zH (HSS.out t rfl)
            have hte : t = (t1, t2) := HT.out
            subst hte
            have HPU := zH (fun W hR => rPut_any o (t1, t2) va vc W (by have := HLN.out; omega) hvc HSR.out hR)
            unfold PutPost at HPU
            dsimp only at HPU
            clear HNN HSS
            obtain ⟨-, k12, -⟩ := K12.out
            go_wp2_with fail
            clear k12
            refine (HPU.out _ HRo.out).mono ?_
            rintro e w9 ⟨a', c', rfl, hc', hrd, hb⟩
            replace HR0 := zH (HR0.out.trans (hb.mono HR0.out.size))
            have HRn := zH hrd
            clear hb hrd HPU
            go_wp2_with fail
            go_roundw
            case rel => exact ⟨j + 1, a', c', wh, putS o (t1, t2), rfl, rfl, by rw [← HDD.out], hjn, hc', HPN, HRn, HR0⟩
            case measure => simp [intOf]; omega
        · have HPO := zH (HOK.out j o wh HP.out (by omega) hj)
          have hle2 : r2 < r1 + (j : Int) := by omega
          clear HP HNOK HSOK HNK HOK
          obtain ⟨d, hd⟩ : ∃ d, r1 + (j : Int) = d := ⟨_, rfl⟩
          rw [hd] at hle2 ⊢
          clear hd hle
          go_wp2_with fail
          go_roundw
          case rel => exact ⟨i + 1, va, vc, wh, o, rfl, rfl, by go_num, by omega, hvc, HPO, HRo, HR0⟩
          case measure => simp [intOf]; omega
    · obtain rfl : n = i := by omega
      obtain ⟨e1, e2⟩ := HFN.out o wh HP.out
      go_wp2_with fail
      go_ret2
      refine ⟨va, vc, ?_, ?_, ?_, bThen HB.out HR0.out⟩
      · rw [e1, e2]; rfl
      · rw [e1]; exact hvc
      · rw [e1]; exact HRo.out
end
section
open Go.RowKit
theorem one_reads {W : World} {b : Nat} {s : OSt} (h : Blk W b #[.int .i64 s.1, .bool s.2]) : Reads W (some ⟨b, 0, none⟩) (1 * 2) (osts [s]) := by
  refine .inr ⟨b, 0, rfl, h.1, fun i hi => ?_⟩
  rw [h.2.1 (0 + i)]
  have hc : i = 0 ∨ i = 1 := by omega
  rcases hc with rfl | rfl <;> rfl
end
section
open Go.RowKit

theorem nodup_leS : ∀ {l u : List OSt}, l.Nodup → (∀ x ∈ l, x ∈ u) → l.length ≤ u.length
  | [], u, _, _ => by simp
  | a :: l, u, hn, hs => by
    have hn' := List.nodup_cons.1 hn
    obtain ⟨p, q, e⟩ := List.append_of_mem (hs a (List.mem_cons_self ..))
    have h1 := nodup_leS (l := l) (u := p ++ q) hn'.2 (fun x hx => by
      have h2 := hs x (List.mem_cons_of_mem _ hx)
      rw [e, List.mem_append, List.mem_cons] at h2
      rw [List.mem_append]
      rcases h2 with h | h | h
      · exact .inl h
      · subst h; exact absurd hx hn'.1
      · exact .inr h)
    rw [e]
    simp only [List.length_cons, List.length_append] at h1 ⊢
    omega
theorem srt_nodup {l : List OSt} (h : SrtS l) : l.Nodup := List.Pairwise.imp (fun {a b} hab e => by subst e; rw [ltS_irr] at hab; cases hab) h
end
section
open Go.RowKit
attribute [local go_sem] Oper.semAt_some

/-- A sorted set of states of a plant. -/
structure StI (p : Plt) (o : List OSt) : Prop where
  srt : SrtS o
  ok : ∀ j, j < o.length → StOk p (sg o j)
  len : o.length ≤ 402
theorem sg_memT {l : List OSt} {k : Nat} (h : k < l.length) : sg l k ∈ l := by
  unfold sg
  rw [List.getD_eq_getElem?_getD, List.getElem?_eq_getElem h]
  exact List.getElem_mem h
theorem aftR_ok {p : Plt} {r : Int × Int} {l : List OSt} {t : OSt} (h : t ∈ aftR p r l) : StOk p t := by
  obtain ⟨s, -, n, -, e⟩ := mem_aftR.1 h
  exact nxtA_ok e
theorem StI.aft1 {p : Plt} (hp : PltOk p) (r : Int × Int) (l : List OSt) : StI p (aftR p r l) := by
  refine ⟨srt_aftR, fun j hj => aftR_ok (sg_memT hj), ?_⟩
  have h1 := nodup_leS (srt_nodup (srt_aftR (p := p) (r := r) (l := l))) (fun x hx => mem_allS.2 (aftR_ok hx))
  rw [allS_len (by have := cap_pos hp; omega)] at h1
  have := cap_le hp
  omega
theorem StI.sgl {p : Plt} {s : OSt} (h : StOk p s) : StI p [s] := by
  refine ⟨List.pairwise_singleton _ _, fun j hj => ?_, by simp⟩
  obtain rfl : j = 0 := by simpa using hj
  exact h
theorem drop_fg {l : List (Int × Int)} {k : Nat} (h : k < l.length) : l.drop k = fg l k :: l.drop (k + 1) := by
  rw [List.drop_eq_getElem_cons h, fg_mem h]
theorem rch_step {p : Plt} {c : List (Int × Int)} {k : Nat} {o : List OSt} (h : k < c.length) : rchR p o (c.drop k) = if EmpB p (fg c k) o = true then none else rchR p (aftR p (fg c k) o) (c.drop (k + 1)) := by
  rw [drop_fg h]
  rfl
theorem Reads.takeR {W : World} {a : Option Addr} {m n : Nat} {f : Nat → Value} (h : Reads W a m f) (hn : n ≤ m) (g : Nat → Value) (hg : ∀ i, i < n → f i = g i) : Reads W a n g := by
  rcases h with h | ⟨b, off, e, hb, hc⟩
  · exact .inl (by omega)
  · exact .inr ⟨b, off, e, hb, fun i hi => by rw [hc i (by omega), hg i hi]⟩
def RchPost (o : Option (List OSt)) (w : World) (e : Ending) (w' : World) : Prop :=
  ∃ a' c', e = .returned (.tuple #[.slice a' (o.getD []).length c', .bool o.isSome]) ∧ (o.getD []).length ≤ c' ∧ Reads w' a' ((o.getD []).length * 2) (osts (o.getD [])) ∧ Below w.heap.size w w'

set_option maxHeartbeats 6400000 in
set_option maxRecDepth 100000 in
theorem rReached_any (p : Plt) (s : OSt) (c : List (Int × Int)) (a ac : Option Addr) (cap cc : Nat) (w : World) (hp : PltOk p) (hs : StOk p s) (hlc : c.length ≤ 20) (hc : ∀ k, k < c.length → 0 ≤ (fg c k).1 ∧ (fg c k).2 ≤ 50 ∧ (fg c k).1 ≤ (fg c k).2) (hr : Reads w a (p.pts.length * 2) (fracs p.pts)) (hrc : Reads w ac (c.length * 2) (fracs c)) :
    Calls Tryz.prog 74 #[.agg (plC p a cap), .agg #[.int .i64 s.1, .bool s.2], .slice ac c.length cc] w (RchPost (rchR p [s] c) w) := by
  have HAF := zH (fun W k (hk : k < c.length) (o : List OSt) (ho : StI p o) al cl (hb : Below w.heap.size w W) h => rAfter_any p (fg c k) o a al cap cl W hp ⟨(hc k hk).1, (hc k hk).2.1⟩ ho.ok (by have := ho.len; omega) (hr.to hb) h)
  have HST := zH (fun k (hk : k < c.length) (o : List OSt) => rch_step (p := p) (o := o) hk)
  have HNX := zH (fun k (o : List OSt) => StI.aft1 hp (fg c k) o)
  have HS1 := zH (StI.sgl hs)
  have HEN : Hid (∀ o, rchR p o (c.drop c.length) = some o) := zH (fun o => by rw [List.drop_length]; rfl)
  have HRC := zH hrc
  unfold AftPost at HAF
  obtain ⟨rr, hrr⟩ : ∃ o, rchR p [s] c = o := ⟨_, rfl⟩
  have HS2 : Hid (rchR p [s] (c.drop 0) = rr) := zH hrr
  rw [hrr]
  obtain ⟨n, hn⟩ : ∃ n, c.length = n := ⟨_, rfl⟩
  rw [hn] at HAF HST HRC HEN hlc ⊢
  unfold plC at HAF ⊢
  clear hr hrc hc hrr hn hp hs
  obtain ⟨s1, s2⟩ := s
  dsimp only
  go_enter Tryz.func74, Tryz.ntmps74
  go_wp2_with fail
  obtain ⟨W, hW⟩ : ∃ W, ((w.alloc (.cells #[.slice a p.pts.length cap, .int .i64 p.pump, .int .i64 p.on, .int .i64 p.off] 44)).alloc (.cells #[.int .i64 s1, .bool s2] 46)).alloc (.cells #[.int .i64 s1, .bool s2] 46) = W := ⟨_, rfl⟩
  rw [hW]
  have K3 : Hid (Blk W w.heap.size #[.slice a p.pts.length cap, .int .i64 p.pump, .int .i64 p.on, .int .i64 p.off]) := by subst hW; exact zH (((Blk.new _ _ _).alloc _).alloc _)
  have K5 : Hid (Reads W (some ⟨w.heap.size + 1 + 1, 0, none⟩) (1 * 2) (osts [(s1, s2)])) := by subst hW; exact zH (one_reads (s := (s1, s2)) (Blk.newAt _ _ _ (by simp)))
  have HB : Hid (Below w.heap.size w W) := by subst hW; exact zH (bAlloc (bAlloc (bAlloc (bSelf w) _) _) _)
  clear hW
  go_loopw [8, 9, 10, 11] (fun s8 s9 _ _ wr => ∃ (k : Nat) (va : Option Addr) (vc : Nat) (o : List OSt), s8 = .slice va o.length vc ∧ s9 = .int .i64 k ∧ k ≤ n ∧ o.length ≤ vc ∧ Hid (StI p o) ∧ Hid (rchR p o (c.drop k) = rr) ∧ Hid (Reads wr va (o.length * 2) (osts o)) ∧ Hid (Below W.heap.size W wr)) (fun _ s9 _ _ _ => n - (intOf s9).toNat)
  case atStart => exact ⟨0, some ⟨w.heap.size + 1 + 1, 0, none⟩, 1, [(s1, s2)], rfl, rfl, Nat.zero_le _, Nat.le_refl _, HS1, HS2, K5, zH (bSelf W)⟩
  case round =>
    obtain ⟨k, va, vc, o, rfl, rfl, hk, hvc, HI, HQ, HO, HR0⟩ := hrel
    by_cases hlt : k < n
    · obtain ⟨b, off, rfl, hb, hcc⟩ := (((HRC.out.to HB.out).to HR0.out)).at (k := k * 2) (by omega)
      obtain ⟨⟨lo, hi⟩, hz⟩ : ∃ q, fg c k = q := ⟨_, rfl⟩
      obtain ⟨wv, hwv⟩ : ∃ wv, wv = wr := ⟨_, rfl⟩
      subst hwv
      have C0 : Hid (wv.cell? ⟨b, off + k * 2, none⟩ = some (.int .i64 lo)) := zH (by rw [hcc _ (by omega), fracs0, hz])
      have C1 : Hid (wv.cell? ⟨b, off + k * 2 + 1, none⟩ = some (.int .i64 hi)) := zH (by rw [Nat.add_assoc, hcc _ (by omega), fracs1, hz])
      have HA1 := zH (fun W al cl hb h => HAF.out W k hlt o HI.out al cl hb h)
      have HT1 := zH (HST.out k hlt o)
      have HN1 := zH (HNX.out k o)
      rw [hz] at HA1 HT1 HN1
      dsimp only at HA1
      obtain ⟨eb, heb⟩ : ∃ b, EmpB p (lo, hi) o = b := ⟨_, rfl⟩
      obtain ⟨M, hM⟩ : ∃ M, aftR p (lo, hi) o = M := ⟨_, rfl⟩
      rw [heb, hM] at HA1 HT1
      rw [hM] at HN1
      rw [HQ.out] at HT1
      have K3v := zH (K3.out.to HR0.out)
      have HBv := zH (bThen HB.out HR0.out)
      have HOv := zH HO.out
      clear hcc hz HAF HST HNX heb hM HI HQ HO
      obtain ⟨no, hno⟩ : ∃ n, o.length = n := ⟨_, rfl⟩
      rw [hno] at HA1 HOv hvc ⊢
      clear hno
      go_wp2_with fail
      refine wp_region_tree (by kernel_rfl) (fun wd hwd => ?_)
      have T := zH hwd
      clear hwd
      refine WTq 0 ?_; apply Exists.intro; refine ⟨fun w1 hb1 => ?_, ?_⟩; (focus (((obtain ⟨-, k3, -⟩ := K3v.out.to (T.out.trans hb1)); have hb1 := zH hb1; go_simp); (try (go_bits; try go_simp)); (try (rw [if_pos (by omega)]; try go_simp)); (first | done | (with_reducible rfl) | exact rfl)))
      simp only [Act.put, zzT, zzO, zzS]
      refine WTq 1 ?_; apply Exists.intro; refine ⟨fun w1 hb1 => ?_, ?_⟩; (focus ((have hb1 := zH hb1; go_simp); (try (go_bits; try go_simp)); (try (rw [if_pos (by omega)]; try go_simp)); (first | done | (with_reducible rfl) | exact rfl)))
      simp only [Act.put, zzT, zzO, zzS]
      refine WTq 2 ?_; apply Exists.intro; refine ⟨fun w1 hb1 => ?_, ?_⟩; (focus ((have hb1 := zH hb1; go_simp); (try (go_bits; try go_simp)); (try (rw [if_pos (by omega)]; try go_simp)); (first | done | (with_reducible rfl) | exact rfl)))
      simp only [Act.put, zzT, zzO, zzS]
      refine WTq 3 ?_; apply Exists.intro; refine ⟨fun w1 hb1 => ?_, ?_⟩; (focus ((have hb1 := zH hb1; go_simp); (try (go_bits; try go_simp)); (try (rw [if_pos (by omega)]; try go_simp)); (first | done | (with_reducible rfl) | exact rfl)))
      simp only [Act.put, zzT, zzO, zzS]
      refine WTq 4 ?_; apply Exists.intro; refine ⟨fun w1 hb1 => ?_, ?_⟩; (focus (((have c0 := ((T.out.trans hb1).cell (p := ⟨b, off + k * 2, none⟩) hb).trans C0.out; have c1 := ((T.out.trans hb1).cell (p := ⟨b, off + k * 2 + 1, none⟩) hb).trans C1.out); have hb1 := zH hb1; go_simp); (try (go_bits; try go_simp)); (try (rw [if_pos (by omega)]; try go_simp)); (first | done | (with_reducible rfl) | exact rfl)))
      simp only [Act.put, zzT, zzO, zzS]
      refine WTq 5 ?_; apply Exists.intro; refine ⟨fun w1 hb1 => ?_, ?_⟩; (focus (((have c0 := ((T.out.trans hb1).cell (p := ⟨b, off + k * 2, none⟩) hb).trans C0.out; have c1 := ((T.out.trans hb1).cell (p := ⟨b, off + k * 2 + 1, none⟩) hb).trans C1.out); have hb1 := zH hb1; go_simp); (try (go_bits; try go_simp)); (try (rw [if_pos (by omega)]; try go_simp)); (first | done | (with_reducible rfl) | exact rfl)))
      simp only [Act.put, zzT, zzO, zzS]
      refine WT_one 6 rfl (by kernel_rfl) ?_
      unfold stepT
      go_wp2_with fail
      refine (HA1.out _ _ _ (bThen HBv.out T.out) (HOv.out.to T.out)).mono ?_
      rintro e u1 ⟨aM, cM, rfl, hcM, hrM, hb2⟩
      have HRM := zH hrM
      have hbd := zH (hb2.mono T.out.size)
      replace T := zH (bThen T.out hb2)
      clear hb2 hrM HA1 HOv K3v HBv
      go_wp2_with fail
      refine ⟨hbd.out, ?_⟩
      clear hbd
      refine WTq 7 ?_; apply Exists.intro; refine ⟨fun w1 hb1 => ?_, ?_⟩; (focus ((have hb1 := zH hb1; go_simp); (try (go_bits; try go_simp)); (try (rw [if_pos (by omega)]; try go_simp)); (first | done | (with_reducible rfl) | exact rfl)))
      simp only [Act.put, zzT, zzO, zzS]
      refine WTq 8 ?_; apply Exists.intro; refine ⟨fun w1 hb1 => ?_, ?_⟩; (focus ((have hb1 := zH hb1; go_simp); (try (go_bits; try go_simp)); (try (rw [if_pos (by omega)]; try go_simp)); (first | done | (with_reducible rfl) | exact rfl)))
      simp only [Act.put, zzT, zzO, zzS]
      refine WTq 9 ?_; apply Exists.intro; refine ⟨fun w1 hb1 => ?_, ?_⟩; (focus ((have hb1 := zH hb1; go_simp); (try (go_bits; try go_simp)); (try (rw [if_pos (by omega)]; try go_simp)); (first | done | (with_reducible rfl) | exact rfl)))
      simp only [Act.put, zzT, zzO, zzS]
      refine WTq 10 ?_; apply Exists.intro; refine ⟨fun w1 hb1 => ?_, ?_⟩; (focus ((have hb1 := zH hb1; go_simp); (try (go_bits; try go_simp)); (try (rw [if_pos (by omega)]; try go_simp)); (first | done | (with_reducible rfl) | exact rfl)))
      simp only [Act.put, zzT, zzO, zzS]
      refine WTq 11 ?_; apply Exists.intro; refine ⟨fun w1 hb1 => ?_, ?_⟩; (focus ((have hb1 := zH hb1; go_simp); (try (go_bits; try go_simp)); (try (rw [if_pos (by omega)]; try go_simp)); (first | done | (with_reducible rfl) | exact rfl)))
      simp only [Act.put, zzT, zzO, zzS]
      refine WT_done (by kernel_rfl) ?_
      replace HR0 := zH (bThen HR0.out T.out)
      clear T C0 C1
      cases eb
      · have HT2 := zH (HT1.out.trans (if_neg (by decide))).symm
        clear HT1
        go_wp2_with fail
        go_roundw
        case rel => exact ⟨k + 1, aM, cM, M, rfl, by go_num, by omega, hcM, HN1, HT2, HRM, HR0⟩
        case measure => simp [intOf]; omega
      · obtain rfl : rr = none := HT1.out.trans (if_pos rfl)
        go_wp2_with fail
        refine bodyPost_ret (results_tmp2 rfl _ _ _) rfl ?_
        exact ⟨none, 0, rfl, Nat.le_refl _, .inl rfl, bThen HB.out HR0.out⟩
    · obtain rfl : n = k := by omega
      obtain rfl : rr = some o := HQ.out.symm.trans (HEN.out o)
      obtain ⟨no, hno⟩ : ∃ n, o.length = n := ⟨_, rfl⟩
      have HNO := zH hno
      rw [hno] at HO hvc ⊢
      clear hno
      go_wp2_with fail
      refine bodyPost_ret (results_tmp2 rfl _ _ _) rfl ?_
      refine ⟨va, vc, ?_, ?_, ?_, bThen HB.out HR0.out⟩
      · show _ = Ending.returned (.tuple #[.slice va o.length vc, .bool true])
        rw [HNO.out]; rfl
      · show o.length ≤ vc
        rw [HNO.out]; exact hvc
      · show Reads _ va (o.length * 2) (osts o)
        rw [HNO.out]; exact HO.out
end
section
open Go.RowKit
attribute [local go_sem] Oper.semAt_some

theorem rch_app {p : Plt} : ∀ (a b : List (Int × Int)) (l : List OSt), rchR p l (a ++ b) = (rchR p l a).bind (fun o => rchR p o b)
  | [], b, l => rfl
  | r :: a, b, l => by
    have e1 : rchR p l (r :: (a ++ b)) = if EmpB p r l = true then none else rchR p (aftR p r l) (a ++ b) := rfl
    have e2 : rchR p l (r :: a) = if EmpB p r l = true then none else rchR p (aftR p r l) a := rfl
    rw [List.cons_append, e1, e2]
    by_cases h : EmpB p r l = true
    · rw [if_pos h, if_pos h]; rfl
    · rw [if_neg h, if_neg h]; exact rch_app a b _
/-- At a tick: the states, and the lowest so far. -/
structure LwS (p : Plt) (s : OSt) (c : List (Int × Int)) (i : Nat) (st : Int × Int) (o : List OSt) : Prop where
  rch : rchR p [s] (c.take i) = some o
  low : lowR p 0 (0, s.1) [s] c = lowR p i st o (c.drop i)
  ne : o ≠ []
  vol : 0 ≤ st.2 ∧ st.2 ≤ capV p.pts
  set : StI p o
theorem LwS.ini {p : Plt} {s : OSt} (c : List (Int × Int)) (h : StOk p s) : LwS p s c 0 (0, s.1) [s] :=
  ⟨rfl, rfl, by simp, h, StI.sgl h⟩
theorem LwS.tick1 {p : Plt} {s : OSt} {c : List (Int × Int)} {i : Nat} {st : Int × Int} {o : List OSt} (h : LwS p s c i st o) (hp : PltOk p) (hi : i < c.length) (hc : ∀ k, k < c.length → 0 ≤ (fg c k).1 ∧ (fg c k).2 ≤ 50 ∧ (fg c k).1 ≤ (fg c k).2) (hn : rchR p [s] c ≠ none) :
    ∃ x m, rchR p [s] (c.take (i + 1)) = some (x :: m) ∧ StOk p x ∧ LwS p s c (i + 1) (if x.1 < st.2 then ((i : Int) + 1, x.1) else st) (x :: m) := by
  have h1 : rchR p [s] (c.take (i + 1)) = rchR p o [fg c i] := by
    rw [List.take_succ_eq_append_getElem hi, rch_app, h.rch, fg_mem hi]
    rfl
  have he : EmpB p (fg c i) o = false := by
    cases hb : EmpB p (fg c i) o with
    | false => rfl
    | true =>
      exfalso
      apply hn
      have e := List.take_append_drop i c
      rw [← e, rch_app, h.rch]
      show rchR p o (c.drop i) = none
      rw [rch_step hi, if_pos hb]
  have h2 : rchR p o [fg c i] = some (aftR p (fg c i) o) := by
    unfold rchR
    rw [if_neg (by rw [he]; decide)]
    rfl
  have hne := aftR_ne (hc i hi).2.2 h.ne he
  obtain ⟨x, m, e⟩ := List.exists_cons_of_ne_nil hne
  have hset := StI.aft1 hp (fg c i) o
  rw [e] at hset
  have hx : StOk p x := hset.ok 0 (by simp)
  refine ⟨x, m, by rw [h1, h2, e], hx, ?_, ?_, by simp, ?_, hset⟩
  · rw [h1, h2, e]
  · rw [h.low, drop_fg hi]
    show lowR p ((i : Int) + 1) (if ((aftR p (fg c i) o).headD (0, false)).1 < st.2 then ((i : Int) + 1, ((aftR p (fg c i) o).headD (0, false)).1) else st) (aftR p (fg c i) o) (c.drop (i + 1)) = _
    rw [e]
    rfl
  · split
    · exact hx
    · exact h.vol
theorem LwS.end1 {p : Plt} {s : OSt} {c : List (Int × Int)} {st : Int × Int} {o : List OSt} (h : LwS p s c c.length st o) : lowR p 0 (0, s.1) [s] c = st := by
  rw [h.low, List.drop_length]; rfl
theorem cmp_pr {p : Plt} {v u : Int} (h : PtsOk p.pts) (v0 : 0 ≤ v ∧ v ≤ capV p.pts) (u0 : 0 ≤ u ∧ u ≤ capV p.pts) (W : World) (a1 a2 b1 b2 : Option Addr) (v1 v2 : Value) (h1 : RR W a1 a2 v1 (rPr p.pts v)) (h2 : RR W b1 b2 v2 (rPr p.pts u)) :
    Calls Tryz.prog 105 #[v1, v2] W fun e w' => e = .returned (.int .i64 (v - u).sign) ∧ Below W.heap.size W w' := by
  have d1 := dg_frL (QOk.of_pts h v0.1 v0.2)
  have d2 := dg_frL (QOk.of_pts h u0.1 u0.2)
  rw [← rPr_eq h v0.1 v0.2] at d1
  rw [← rPr_eq h u0.1 u0.2] at d2
  have := RatioCmp_any (rPr p.pts v) (rPr p.pts u) a1 a2 b1 b2 v1 v2 W h1 h2 d1.1 d1.2 d2.1 d2.2
  rw [show ((rPr p.pts v).1 * (rPr p.pts u).2 - (rPr p.pts u).1 * (rPr p.pts v).2).sign = (v - u).sign from cmpQ_up h v0.1 v0.2 u0.1 u0.2] at this
  exact this
set_option maxHeartbeats 6400000 in
set_option maxRecDepth 100000 in
theorem rLowest_any (p : Plt) (s : OSt) (c : List (Int × Int)) (a ac : Option Addr) (cap cc : Nat) (w : World) (hp : PltOk p) (hs : StOk p s) (hlc : c.length ≤ 20) (hcc : c.length ≤ cc) (hc : ∀ k, k < c.length → 0 ≤ (fg c k).1 ∧ (fg c k).2 ≤ 50 ∧ (fg c k).1 ≤ (fg c k).2) (hno : rchR p [s] c ≠ none) (hr : Reads w a (p.pts.length * 2) (fracs p.pts)) (hrc : Reads w ac (c.length * 2) (fracs c)) :
    Calls Tryz.prog 75 #[.agg (plC p a cap), .agg #[.int .i64 s.1, .bool s.2], .slice ac c.length cc] w fun e w' => ∃ a1 a2 v, e = .returned (.tuple #[.int .i64 (lowR p 0 (0, s.1) [s] c).1, v]) ∧ RR w' a1 a2 v (rPr p.pts (lowR p 0 (0, s.1) [s] c).2) ∧ Below w.heap.size w w' := by
  have HPR := zH (fun W v (h : 0 ≤ v ∧ v ≤ capV p.pts) (hb : Below w.heap.size w W) => rPressure_any p v a cap W hp.pts (by have := cap_le hp; omega) (hr.to hb))
  have HRE := zH (fun W k (hk : k ≤ c.length) (hb : Below w.heap.size w W) => by
    have := rReached_any p s (c.take k) a ac cap cc W hp hs (by rw [List.length_take]; omega) (fun j hj => by
      have hj' : j < k ∧ j < c.length := by rw [List.length_take] at hj; omega
      have e : fg (c.take k) j = fg c j := by
        unfold fg
        rw [List.getD_eq_getElem?_getD, List.getD_eq_getElem?_getD, List.getElem?_take, if_pos hj'.1]
      rw [e]; exact hc j hj'.2) (hr.to hb) (by rw [List.length_take, Nat.min_eq_left hk]; exact Reads.takeR (hrc.to hb) (by omega) _ (fun i hi => (fracs_take hi).symm))
    rw [List.length_take, Nat.min_eq_left hk] at this
    exact this)
  have HST := zH (fun i st o (h : LwS p s c i st o) hi => h.tick1 hp hi hc hno)
  have HS0 := zH (LwS.ini c hs)
  have HFN := zH (fun st o (h : LwS p s c c.length st o) => h.end1)
  have HCM := zH (fun W v u h1 h2 a1 a2 b1 b2 v1 v2 r1 r2 => cmp_pr (v := v) (u := u) hp.pts h1 h2 W a1 a2 b1 b2 v1 v2 r1 r2)
  have HSV := zH (show 0 ≤ s.1 ∧ s.1 ≤ capV p.pts from hs)
  obtain ⟨⟨tk, lv⟩, hrr⟩ : ∃ o, lowR p 0 (0, s.1) [s] c = o := ⟨_, rfl⟩
  rw [hrr] at HFN ⊢
  obtain ⟨n, hn⟩ : ∃ n, c.length = n := ⟨_, rfl⟩
  rw [hn] at HRE HST HFN hlc hcc ⊢
  unfold plC at HPR HRE ⊢
  obtain ⟨C, hC⟩ : ∃ n, capV p.pts = n := ⟨_, rfl⟩
  rw [hC] at HPR HCM HSV
  have HCC := zH hC
  clear hr hrc hc hrr hn hp hs hno hC
  obtain ⟨s1, s2⟩ := s
  dsimp only at HRE HS0 HSV ⊢
  unfold RchPost at HRE
  go_enter Tryz.func75, Tryz.ntmps75
  go_wp2_with fail
  obtain ⟨W, hW⟩ : ∃ W, ((w.alloc (.cells #[.slice a p.pts.length cap, .int .i64 p.pump, .int .i64 p.on, .int .i64 p.off] 44)).alloc (.cells #[.int .i64 s1, .bool s2] 46)).alloc (.cells #[.int .i64 0, .slice none 0 0, .int .i64 0, .slice none 0 0] 112) = W := ⟨_, rfl⟩
  rw [hW]
  have K3 : Hid (Blk W w.heap.size #[.slice a p.pts.length cap, .int .i64 p.pump, .int .i64 p.on, .int .i64 p.off]) := by subst hW; exact zH (((Blk.new _ _ _).alloc _).alloc _)
  have K4 : Hid (Blk W (w.heap.size + 1) #[.int .i64 s1, .bool s2]) := by subst hW; exact zH ((Blk.newAt _ _ _ (by simp)).alloc _)
  have KB7 : Hid (Blk W (w.heap.size + 1 + 1) #[.int .i64 0, .slice none 0 0, .int .i64 0, .slice none 0 0]) := by subst hW; exact zH (Blk.newAt _ _ _ (by simp))
  have HB : Hid (Below w.heap.size w W) := by subst hW; exact zH (bAlloc (bAlloc (bAlloc (bSelf w) _) _) _)
  clear hW
  refine (HPR.out _ s1 HSV.out HB.out).mono ?_
  rintro e w1 ⟨a1, a2, v, rfl, hrr, hb, hloc⟩
  have LB7 := zH (hloc (fun c => c ≠ w.heap.size + 1 + 1) (fun b hb => by have := KB7.out.1; omega) (fun i hi => by cases hi))
  replace K3 := zH (K3.out.to hb)
  replace K4 := zH (K4.out.to hb)
  replace KB7 := zH (KB7.out.to hb)
  replace HB := zH (bThen HB.out hb)
  have HR1 := zH hrr
  obtain ⟨t1, n1, c1, t2, n2, c2, rfl, -, -⟩ := hrr.ex
  clear hb hloc hrr
  go_wp2_with fail
  obtain ⟨w2, hw2⟩ : ∃ u, w1.alloc (.cells #[.int .i64 t1, .slice a1 n1 c1, .int .i64 t2, .slice a2 n2 c2] 112) = u := ⟨_, rfl⟩
  rw [hw2]
  have hb : Below w1.heap.size w1 w2 := by subst hw2; exact bAlloc (bSelf _) _
  have KB9 : Hid (Blk w2 w1.heap.size #[.int .i64 t1, .slice a1 n1 c1, .int .i64 t2, .slice a2 n2 c2]) := by subst hw2; exact zH (Blk.new _ _ _)
  have LB9 := zH HR1.out.locNe
  replace K3 := zH (K3.out.to hb)
  replace K4 := zH (K4.out.to hb)
  have h39 : Hid (w.heap.size ≠ w1.heap.size) := zH (by have := KB7.out.1; omega)
  have h49 : Hid (w.heap.size + 1 ≠ w1.heap.size) := zH (by have := KB7.out.1; omega)
  have h79 : Hid (w.heap.size + 1 + 1 ≠ w1.heap.size) := zH (by have := KB7.out.1; omega)
  have hw9 : Hid (w.heap.size ≤ w1.heap.size) := zH (by have := KB7.out.1; omega)
  replace KB7 := zH (KB7.out.to hb)
  replace HB := zH (bThen HB.out hb)
  replace HR1 := zH (HR1.out.to hb)
  obtain ⟨B3, hB3⟩ : ∃ u, w.heap.size = u := ⟨_, rfl⟩
  obtain ⟨B9, hB9⟩ : ∃ u, w1.heap.size = u := ⟨_, rfl⟩
  have HW3 : Hid (w.heap.size = B3) := zH hB3
  rw [hB9] at KB9 LB9 h39 h49 h79 hw9 ⊢
  rw [hB3] at K3 K4 KB7 LB7 h39 h49 h79 hw9 ⊢
  obtain ⟨B4, hB4⟩ : ∃ u, B3 + 1 = u := ⟨_, rfl⟩
  have h34 : Hid (B3 ≠ B4 ∧ B3 ≠ B4 + 1 ∧ B4 ≠ B4 + 1) := zH (by omega)
  rw [hB4] at K4 KB7 LB7 h49 h79 ⊢
  obtain ⟨B7, hB7⟩ : ∃ u, B4 + 1 = u := ⟨_, rfl⟩
  have hw7 : Hid (B3 ≤ B7) := zH (by omega)
  rw [hB7] at KB7 LB7 h79 h34 ⊢
  clear hw2 hb hB3 hB9 hB4 hB7
  go_loopw [8, 10, 11, 12, 13] (fun s8 s10 _ _ _ wr => ∃ (i : Nat) (tk lv : Int) (o : List OSt) (a1 a2 : Option Addr) (t1 t2 : Int) (n1 c1 n2 c2 : Nat), s8 = .int .i64 tk ∧ s10 = .int .i64 ((i : Int) + 1) ∧ i ≤ n ∧ Hid (LwS p (s1, s2) c i (tk, lv) o) ∧ Hid (Blk wr B9 #[.int .i64 t1, .slice a1 n1 c1, .int .i64 t2, .slice a2 n2 c2]) ∧ Hid (RR wr a1 a2 (.agg #[.int .i64 t1, .slice a1 n1 c1, .int .i64 t2, .slice a2 n2 c2]) (rPr p.pts lv)) ∧ Hid (Loc (fun c => c ≠ B9) a1 (rPr p.pts lv).1 ∧ Loc (fun c => c ≠ B9) a2 (rPr p.pts lv).2) ∧ Hid (Loc (fun c => c ≠ B7) a1 (rPr p.pts lv).1 ∧ Loc (fun c => c ≠ B7) a2 (rPr p.pts lv).2) ∧ Hid (Blk wr B3 #[.slice a p.pts.length cap, .int .i64 p.pump, .int .i64 p.on, .int .i64 p.off]) ∧ Hid (Blk wr B4 #[.int .i64 s1, .bool s2]) ∧ Hid (Blk wr B7 #[.int .i64 0, .slice none 0 0, .int .i64 0, .slice none 0 0]) ∧ Hid (Below w.heap.size w wr)) (fun _ s10 _ _ _ _ => n + 1 - (intOf s10).toNat)
  case atStart => exact ⟨0, 0, s1, [(s1, s2)], a1, a2, t1, t2, n1, c1, n2, c2, rfl, by go_num, Nat.zero_le _, HS0, KB9, HR1, LB9, LB7, K3, K4, KB7, HB⟩
  case round =>
    clear K3 K4 KB7 KB9 HR1 LB9 LB7 HB HS0
    obtain ⟨i, tk', lv', o, a1, a2, t1, t2, n1, c1, n2, c2, rfl, rfl, hi, HI, KB9, HRR, LB9, LB7, K3, K4, KB7, HB⟩ := hrel
    by_cases hlt : i < n
    · obtain ⟨⟨x1, x2⟩, m, hrx, hxo, hnx⟩ := HST.out i (tk', lv') o HI.out hlt
      have HVV := zH HI.out.vol
      have HN2 := zH hnx
      have HSM := zH hnx.set.len
      have HRI := zH (fun W hb => HRE.out W (i + 1) hlt hb)
      rw [hrx] at HRI
      dsimp only [Option.getD_some, Option.isSome_some] at HRI
      have HRX0 := zH (show Hid (osts ((x1, x2) :: m) 0 = .int .i64 x1) from zH rfl)
      have HXO := zH (show 0 ≤ x1 ∧ x1 ≤ C from by
        have := hxo; exact ⟨this.1, by have h2 := this.2; rw [HCC.out] at h2; exact h2⟩)
      have HP2 := zH (fun W hb => HPR.out W x1 HXO.out hb)
      have hle1 : (i : Int) + 1 ≤ (n : Int) := by omega
      clear HST HI hrx hxo hnx HRX0
      have hb9 := zH KB9.out.1
      go_wp2_with fail
      refine wp_region_tree (by kernel_rfl) (fun wd hwd => ?_)
      have T := zH hwd
      clear hwd
      refine WTq 0 ?_; apply Exists.intro; refine ⟨fun w1 hb1 => ?_, ?_⟩; (focus (((obtain ⟨-, k3, -⟩ := K3.out.to (T.out.trans hb1)); have hb1 := zH hb1; go_simp); (try (go_bits; try go_simp)); (try (rw [if_pos (by omega)]; try go_simp)); (first | done | (with_reducible rfl) | exact rfl)))
      simp only [Act.put, zzT, zzO, zzS]
      refine WTq 1 ?_; apply Exists.intro; refine ⟨fun w1 hb1 => ?_, ?_⟩; (focus (((obtain ⟨-, k4, -⟩ := K4.out.to (T.out.trans hb1)); have hb1 := zH hb1; go_simp); (try (go_bits; try go_simp)); (try (rw [if_pos (by omega)]; try go_simp)); (first | done | (with_reducible rfl) | exact rfl)))
      simp only [Act.put, zzT, zzO, zzS]
      refine WTq 2 ?_; apply Exists.intro; refine ⟨fun w1 hb1 => ?_, ?_⟩; (focus ((have hb1 := zH hb1; go_simp); (try (go_bits; try go_simp)); (try (rw [if_pos (by omega)]; try go_simp)); (first | done | (with_reducible rfl) | exact rfl)))
      simp only [Act.put, zzT, zzO, zzS]
      refine WTq 3 ?_; apply Exists.intro; refine ⟨fun w1 hb1 => ?_, ?_⟩; (focus ((have hb1 := zH hb1; go_simp); (try (go_bits; try go_simp)); (try (rw [if_pos (by omega)]; try go_simp)); (first | done | (with_reducible rfl) | exact rfl)))
      simp only [Act.put, zzT, zzO, zzS]
      refine WTq 4 ?_; apply Exists.intro; refine ⟨fun w1 hb1 => ?_, ?_⟩; (focus ((have hb1 := zH hb1; go_simp); (try (go_bits; try go_simp)); (try (rw [if_pos (by omega)]; try go_simp)); (first | done | (with_reducible rfl) | exact rfl)))
      simp only [Act.put, zzT, zzO, zzS]
      refine WT_one 5 rfl (by kernel_rfl) ?_
      unfold stepT
      go_wp2_with fail
      refine (HRI.out _ (bThen HB.out T.out)).mono ?_
      rintro e u1 ⟨aM, cM, rfl, hcM, hrM, hb2⟩
      have HRM := zH hrM
      have hbd := zH (hb2.mono T.out.size)
      replace T := zH (bThen T.out hb2)
      clear hb2 hrM HRI
      go_wp2_with fail
      refine ⟨hbd.out, ?_⟩
      clear hbd
      refine WTq 6 ?_; apply Exists.intro; refine ⟨fun w1 hb1 => ?_, ?_⟩; (focus ((have hb1 := zH hb1; go_simp); (try (go_bits; try go_simp)); (try (rw [if_pos (by omega)]; try go_simp)); (first | done | (with_reducible rfl) | exact rfl)))
      simp only [Act.put, zzT, zzO, zzS]
      refine WTq 7 ?_; apply Exists.intro; refine ⟨fun w1 hb1 => ?_, ?_⟩; (focus ((have hb1 := zH hb1; go_simp); (try (go_bits; try go_simp)); (try (rw [if_pos (by omega)]; try go_simp)); (first | done | (with_reducible rfl) | exact rfl)))
      simp only [Act.put, zzT, zzO, zzS]
      refine WTq 8 ?_; apply Exists.intro; refine ⟨fun w1 hb1 => ?_, ?_⟩; (focus ((have hb1 := zH hb1; go_simp); (try (go_bits; try go_simp)); (try (rw [if_pos (by omega)]; try go_simp)); (first | done | (with_reducible rfl) | exact rfl)))
      simp only [Act.put, zzT, zzO, zzS]
      refine WTq 9 ?_; apply Exists.intro; refine ⟨fun w1 hb1 => ?_, ?_⟩; (focus ((have hb1 := zH hb1; go_simp); (try (go_bits; try go_simp)); (try (rw [if_pos (by omega)]; try go_simp)); (first | done | (with_reducible rfl) | exact rfl)))
      simp only [Act.put, zzT, zzO, zzS]
      refine WTq 10 ?_; apply Exists.intro; refine ⟨fun w1 hb1 => ?_, ?_⟩; (focus ((have hb1 := zH hb1; go_simp); (try (go_bits; try go_simp)); (try (rw [if_pos (by omega)]; try go_simp)); (first | done | (with_reducible rfl) | exact rfl)))
      simp only [Act.put, zzT, zzO, zzS]
      refine WT_done (by kernel_rfl) ?_
      replace K3 := zH (K3.out.to T.out)
      replace K4 := zH (K4.out.to T.out)
      replace KB7 := zH (KB7.out.to T.out)
      replace KB9 := zH (KB9.out.to T.out)
      replace HRR := zH (HRR.out.to T.out)
      replace HB := zH (bThen HB.out T.out)
      clear T
      obtain ⟨wv, hwv⟩ : ∃ wv, wv = u1 := ⟨_, rfl⟩
      subst hwv
      obtain ⟨g, go, rfl, hg, hgc⟩ := HRM.out.at (k := 0) (by simp)
      have C0 : Hid (wv.cell? ⟨g, go, none⟩ = some (.int .i64 x1)) := zH (hgc 0 (by simp))
      obtain ⟨nm, hnm⟩ : ∃ k, m.length = k := ⟨_, rfl⟩
      rw [hnm]
      have hm1 : (0 : Int) < (nm : Int) + 1 := by omega
      have hm2 : 0 < nm + 1 := by omega
      clear hnm hgc HRM
      go_wp2_with fail
      go_cut [13] from 33 to 38 (fun s13 wc => ∃ (B : Nat) (b1 b2 : Option Addr) (t3 t4 : Int) (n3 c3 n4 c4 : Nat), s13 = .pointer (some ⟨B, 0, none⟩) ∧ Hid (Blk wc B #[.int .i64 t3, .slice b1 n3 c3, .int .i64 t4, .slice b2 n4 c4]) ∧ Hid (RR wc b1 b2 (.agg #[.int .i64 t3, .slice b1 n3 c3, .int .i64 t4, .slice b2 n4 c4]) (rPr p.pts x1)) ∧ Hid (Loc (fun c => c ≠ B9) b1 (rPr p.pts x1).1 ∧ Loc (fun c => c ≠ B9) b2 (rPr p.pts x1).2) ∧ Hid (Loc (fun c => c ≠ B7) b1 (rPr p.pts x1).1 ∧ Loc (fun c => c ≠ B7) b2 (rPr p.pts x1).2) ∧ Hid (Below wv.heap.size wv wc))
      case first =>
        refine wp_region_tree (by kernel_rfl) (fun wd hwd => ?_)
        have T := zH hwd
        clear hwd
        replace KB9 := zH (KB9.out.to T.out)
        replace KB7 := zH (KB7.out.to T.out)
        refine WTq 0 ?_; apply Exists.intro; refine ⟨fun w1 hb1 => ?_, ?_⟩; (focus (((obtain ⟨-, k3, -⟩ := K3.out.to (T.out.trans hb1)); have hb1 := zH hb1; go_simp); (try (go_bits; try go_simp)); (try (rw [if_pos (by omega)]; try go_simp)); (first | done | (with_reducible rfl) | exact rfl)))
        simp only [Act.put, zzT, zzO, zzS]
        refine WTq 1 ?_; apply Exists.intro; refine ⟨fun w1 hb1 => ?_, ?_⟩; (focus ((have hb1 := zH hb1; go_simp); (try (go_bits; try go_simp)); (try (rw [if_pos (by omega)]; try go_simp)); (first | done | (with_reducible rfl) | exact rfl)))
        simp only [Act.put, zzT, zzO, zzS]
        refine WTq 2 ?_; apply Exists.intro; refine ⟨fun w1 hb1 => ?_, ?_⟩; (focus (((have c0 := ((T.out.trans hb1).cell (p := ⟨g, go, none⟩) hg).trans C0.out); have hb1 := zH hb1; go_simp); (try (go_bits; try go_simp)); (try (rw [if_pos (by omega)]; try go_simp)); (first | done | (with_reducible rfl) | exact rfl)))
        simp only [Act.put, zzT, zzO, zzS]
        refine WTq 3 ?_; apply Exists.intro; refine ⟨fun w1 hb1 => ?_, ?_⟩; (focus (((have c0 := ((T.out.trans hb1).cell (p := ⟨g, go, none⟩) hg).trans C0.out); have hb1 := zH hb1; go_simp); (try (go_bits; try go_simp)); (try (rw [if_pos (by omega)]; try go_simp)); (first | done | (with_reducible rfl) | exact rfl)))
        simp only [Act.put, zzT, zzO, zzS]
        refine WTq 4 ?_; apply Exists.intro; refine ⟨fun w1 hb1 => ?_, ?_⟩; (focus (((have c0 := ((T.out.trans hb1).cell (p := ⟨g, go, none⟩) hg).trans C0.out); have hb1 := zH hb1; go_simp); (try (go_bits; try go_simp)); (try (rw [if_pos (by omega)]; try go_simp)); (first | done | (with_reducible rfl) | exact rfl)))
        simp only [Act.put, zzT, zzO, zzS]
        refine WT_two 5 6 rfl rfl (by kernel_rfl) ?_ ?_
        · unfold stepT
          go_wp2_with fail
          refine (HP2.out _ (bThen HB.out T.out)).mono ?_
          rintro e u1 ⟨ap, bp, vp, rfl, hrr, hb, hloc⟩
          have HL := zH (fun (P : Nat → Prop) (h : ∀ b, wd.heap.size ≤ b → P b) => hloc P h (fun i hi => by cases hi))
          have LB9p := zH (HL.out (fun c => c ≠ B9) (fun b hb => by have := KB9.out.1; omega))
          have LB7p := zH (HL.out (fun c => c ≠ B7) (fun b hb => by have := KB7.out.1; omega))
          replace KB9 := zH (KB9.out.to hb)
          replace KB7 := zH (KB7.out.to hb)
          have HRp := zH hrr
          have hbd := zH (hb.mono T.out.size)
          replace T := zH (bThen T.out hb)
          obtain ⟨sp, np, cp, tp, mp, dp, rfl, -, -⟩ := hrr.ex
          clear hb hloc HL hrr
          go_wp2_with fail
          refine ⟨hbd.out, ?_⟩
          clear hbd
          refine WT_one 6 rfl (by kernel_rfl) ?_
          unfold stepT
          go_wp2_with fail
          have LBNp : Hid (Loc (fun c => c ≠ u1.heap.size) ap _ ∧ Loc (fun c => c ≠ u1.heap.size) bp _) := zH (HRp.out.locNe)
          have neB9BN : Hid (B9 ≠ u1.heap.size) := zH (by have := KB9.out.1; omega)
          have neB7BN : Hid (B7 ≠ u1.heap.size) := zH (by have := KB7.out.1; omega)
          obtain ⟨u2, hwA⟩ : ∃ wA, u1.alloc (.cells #[.int .i64 0, .slice none 0 0, .int .i64 0, .slice none 0 0] 112) = wA := ⟨_, rfl⟩
          rw [hwA]
          have hb : Below u1.heap.size u1 u2 := by subst hwA; exact bAlloc (bSelf _) _
          replace HRp := zH (HRp.out.to hb)
          replace KB9 := zH (KB9.out.to hb)
          replace KB7 := zH (KB7.out.to hb)
          have KBN : Hid (Blk u2 u1.heap.size #[.int .i64 0, .slice none 0 0, .int .i64 0, .slice none 0 0]) := by subst hwA; exact Blk.new _ _ _
          clear hwA
          have BNN : Hid (wv.heap.size ≤ u1.heap.size) := zH T.out.size
          obtain ⟨BN, hBN⟩ : ∃ N, u1.heap.size = N := ⟨_, rfl⟩
          have hbd := zH (hb.mono T.out.size)
          replace T := zH (bThen T.out hb)
          clear hb
          rw [hBN] at KBN BNN LBNp neB9BN neB7BN ⊢
          clear hBN
          refine ⟨hbd.out, ?_⟩
          clear hbd
          refine WT_one 7 rfl (by kernel_rfl) ?_
          unfold stepT
          obtain ⟨-, kx, fx⟩ := KBN.out
          go_wp2_with fail
          clear kx fx
          obtain ⟨u3, hu⟩ : ∃ u, st4 u2 BN (.int .i64 sp) (.slice ap np cp) (.int .i64 tp) (.slice bp mp dp) = u := ⟨_, rfl⟩
          have hb := below_st4 u2 BNN.out (.int .i64 sp) (.slice ap np cp) (.int .i64 tp) (.slice bp mp dp)
          have hB9 := KB9.out.st4o (b' := BN) (by first | exact neBNB9.out | exact fun e => neB9BN.out e.symm) (.int .i64 sp) (.slice ap np cp) (.int .i64 tp) (.slice bp mp dp)
          have hB7 := KB7.out.st4o (b' := BN) (by first | exact neBNB7.out | exact fun e => neB7BN.out e.symm) (.int .i64 sp) (.slice ap np cp) (.int .i64 tp) (.slice bp mp dp)
          have hBN := KBN.out.st4 (.int .i64 sp) (.slice ap np cp) (.int .i64 tp) (.slice bp mp dp)
          have hp := HRp.out.st4 LBNp.out (.int .i64 sp) (.slice ap np cp) (.int .i64 tp) (.slice bp mp dp)
          rw [hu] at hb hB9 hB7 hBN hp
          unfold st4 at hu
          rw [hu]
          replace KB9 := zH hB9
          replace KB7 := zH hB7
          replace KBN := zH hBN
          replace HRp := zH hp
          clear hB9 hB7 hBN hp hu
          replace T := zH (T.out.trans hb)
          refine ⟨hb, ?_⟩
          clear hb
          refine WT_done (by kernel_rfl) ?_
          go_wp2_with fail
          go_meet
          case rel => exact ⟨BN, ap, bp, sp, tp, np, cp, mp, dp, rfl, KBN, HRp, LB9p, LB7p, T⟩
        · unfold stepT
          go_wp2_with fail
          have neB9BN : Hid (B9 ≠ wd.heap.size) := zH (by have := KB9.out.1; omega)
          have neB7BN : Hid (B7 ≠ wd.heap.size) := zH (by have := KB7.out.1; omega)
          obtain ⟨u1, hwA⟩ : ∃ wA, wd.alloc (.cells #[.int .i64 0, .slice none 0 0, .int .i64 0, .slice none 0 0] 112) = wA := ⟨_, rfl⟩
          rw [hwA]
          have hb : Below wd.heap.size wd u1 := by subst hwA; exact bAlloc (bSelf _) _
          replace KB9 := zH (KB9.out.to hb)
          replace KB7 := zH (KB7.out.to hb)
          have KBN : Hid (Blk u1 wd.heap.size #[.int .i64 0, .slice none 0 0, .int .i64 0, .slice none 0 0]) := by subst hwA; exact Blk.new _ _ _
          clear hwA
          have BNN : Hid (wv.heap.size ≤ wd.heap.size) := zH T.out.size
          obtain ⟨BN, hBN⟩ : ∃ N, wd.heap.size = N := ⟨_, rfl⟩
          have hbd := zH (hb.mono T.out.size)
          replace T := zH (bThen T.out hb)
          clear hb
          rw [hBN] at KBN BNN neB9BN neB7BN ⊢
          clear hBN
          refine ⟨hbd.out, ?_⟩
          clear hbd
          refine WT_one 5 rfl (by kernel_rfl) ?_
          unfold stepT
          go_wp2_with fail
          refine (HP2.out _ (bThen HB.out T.out)).mono ?_
          rintro e u2 ⟨ap, bp, vp, rfl, hrr, hb, hloc⟩
          have HL := zH (fun (P : Nat → Prop) (h : ∀ b, u1.heap.size ≤ b → P b) => hloc P h (fun i hi => by cases hi))
          have LB9p := zH (HL.out (fun c => c ≠ B9) (fun b hb => by have := KB9.out.1; omega))
          have LB7p := zH (HL.out (fun c => c ≠ B7) (fun b hb => by have := KB7.out.1; omega))
          have LBNp := zH (HL.out (fun c => c ≠ BN) (fun b hb => by have := KBN.out.1; omega))
          replace KB9 := zH (KB9.out.to hb)
          replace KB7 := zH (KB7.out.to hb)
          replace KBN := zH (KBN.out.to hb)
          have HRp := zH hrr
          have hbd := zH (hb.mono T.out.size)
          replace T := zH (bThen T.out hb)
          obtain ⟨sp, np, cp, tp, mp, dp, rfl, -, -⟩ := hrr.ex
          clear hb hloc HL hrr
          go_wp2_with fail
          refine ⟨hbd.out, ?_⟩
          clear hbd
          refine WT_one 7 rfl (by kernel_rfl) ?_
          unfold stepT
          obtain ⟨-, kx, fx⟩ := KBN.out
          go_wp2_with fail
          clear kx fx
          obtain ⟨u3, hu⟩ : ∃ u, st4 u2 BN (.int .i64 sp) (.slice ap np cp) (.int .i64 tp) (.slice bp mp dp) = u := ⟨_, rfl⟩
          have hb := below_st4 u2 BNN.out (.int .i64 sp) (.slice ap np cp) (.int .i64 tp) (.slice bp mp dp)
          have hB9 := KB9.out.st4o (b' := BN) (by first | exact neBNB9.out | exact fun e => neB9BN.out e.symm) (.int .i64 sp) (.slice ap np cp) (.int .i64 tp) (.slice bp mp dp)
          have hB7 := KB7.out.st4o (b' := BN) (by first | exact neBNB7.out | exact fun e => neB7BN.out e.symm) (.int .i64 sp) (.slice ap np cp) (.int .i64 tp) (.slice bp mp dp)
          have hBN := KBN.out.st4 (.int .i64 sp) (.slice ap np cp) (.int .i64 tp) (.slice bp mp dp)
          have hp := HRp.out.st4 LBNp.out (.int .i64 sp) (.slice ap np cp) (.int .i64 tp) (.slice bp mp dp)
          rw [hu] at hb hB9 hB7 hBN hp
          unfold st4 at hu
          rw [hu]
          replace KB9 := zH hB9
          replace KB7 := zH hB7
          replace KBN := zH hBN
          replace HRp := zH hp
          clear hB9 hB7 hBN hp hu
          replace T := zH (T.out.trans hb)
          refine ⟨hb, ?_⟩
          clear hb
          refine WT_done (by kernel_rfl) ?_
          go_wp2_with fail
          go_meet
          case rel => exact ⟨BN, ap, bp, sp, tp, np, cp, mp, dp, rfl, KBN, HRp, LB9p, LB7p, T⟩
      obtain ⟨wz, hwz⟩ : ∃ wo, wo = wc := ⟨_, rfl⟩
      subst hwz
      obtain ⟨BN, b1, b2, t3, t4, n3, c3, n4, c4, rfl, KBN, HRN, LN9, LN7, hbc⟩ := hcut
      replace hbc := hbc.out
      replace K3 := zH (K3.out.to hbc)
      replace K4 := zH (K4.out.to hbc)
      replace KB7 := zH (KB7.out.to hbc)
      replace KB9 := zH (KB9.out.to hbc)
      replace HRR := zH (HRR.out.to hbc)
      replace HB := zH (bThen HB.out hbc)
      clear hbc HP2 C0
      obtain ⟨-, k9, -⟩ := KB9.out
      obtain ⟨-, kN, -⟩ := KBN.out
      go_wp2_with fail
      clear k9 kN
      refine (HCM.out _ x1 lv' HXO.out (by have := HVV.out; rw [HCC.out] at this; exact this) _ _ _ _ _ _ HRN.out HRR.out).mono ?_
      rintro e wy ⟨rfl, hbc⟩
      replace K3 := zH (K3.out.to hbc)
      replace K4 := zH (K4.out.to hbc)
      replace KB7 := zH (KB7.out.to hbc)
      replace KB9 := zH (KB9.out.to hbc)
      replace KBN := zH (KBN.out.to hbc)
      replace HRN := zH (HRN.out.to hbc)
      replace HRR := zH (HRR.out.to hbc)
      replace HB := zH (bThen HB.out hbc)
      clear hbc HCM
      by_cases hx : x1 < lv'
      · have hsg : (x1 - lv').sign = -1 := Int.sign_eq_neg_one_of_neg (by omega)
        rw [hsg]
        have HN3 := zH (show LwS p (s1, s2) c (i + 1) ((i : Int) + 1, x1) ((x1, x2) :: m) from by have := HN2.out; rw [if_pos hx] at this; exact this)
        clear HN2 hsg
        go_wp2_with fail
        refine wp_region_quiet_tail 3 (fun w' => Below (World.heap wy).size (wy) w') (by kernel_rfl) (by kernel_rfl) (Below.refl _ _).drew ?_
        simp only [List.take_succ_cons, List.take_zero, List.drop_succ_cons, List.drop_zero]
        refine WQ.out ?_
        repeat (first | (refine WQ_no (by rfl) ?_; (simp only [Act.put, zzT, zzO, zzS])) | (refine WQ_yes (by rfl) ?_; apply Exists.intro; refine ⟨fun w1 hb1 => ?_, ?_⟩; (focus (((obtain ⟨-, kN, -⟩ := KBN.out.to hb1); have hb1 := zH hb1; go_simp); (try (go_bits; try go_simp)); (try (rw [if_pos (by omega)]; try go_simp)); (first | done | (with_reducible rfl) | exact rfl))); (simp only [Act.put, zzT, zzO, zzS])))
        refine WQ_nil ?_
        intro w1 hb1
        replace K3 := zH (K3.out.to hb1)
        replace K4 := zH (K4.out.to hb1)
        replace KB7 := zH (KB7.out.to hb1)
        replace KB9 := zH (KB9.out.to hb1)
        replace HRN := zH (HRN.out.to hb1)
        replace HB := zH (bThen HB.out hb1)
        clear hb1 HRR KBN
        obtain ⟨-, k9, f9⟩ := KB9.out
        go_wp2_with fail
        clear k9 f9
        have hst := zH (show st4 w1 B9 (.int .i64 t3) (.slice b1 n3 c3) (.int .i64 t4) (.slice b2 n4 c4) = _ from rfl)
        go_roundw
        case rel => exact ⟨i + 1, (i : Int) + 1, x1, (x1, x2) :: m, b1, b2, t3, t4, n3, c3, n4, c4, by go_num, by go_num, by omega, HN3, zH (KB9.out.st4 _ _ _ _), zH (HRN.out.st4 LN9.out _ _ _ _), LN9, LN7, zH (K3.out.st4o h39.out.symm _ _ _ _), zH (K4.out.st4o h49.out.symm _ _ _ _), zH (KB7.out.st4o h79.out.symm _ _ _ _), zH (HB.out.trans (below_st4 w1 (by rw [HW3.out]; exact hw9.out) _ _ _ _))⟩
        case measure => simp [intOf]; omega
      · have hsg : ¬ (x1 - lv').sign < 0 := by
          intro h
          have := Int.neg_of_sign_eq_neg_one (show (x1 - lv').sign = -1 by rcases Int.sign_trichotomy (x1 - lv') with h1 | h1 | h1 <;> omega)
          omega
        obtain ⟨sg, hsg'⟩ : ∃ x, (x1 - lv').sign = x := ⟨_, rfl⟩
        rw [hsg'] at hsg ⊢
        have HN3 := zH (show LwS p (s1, s2) c (i + 1) (tk', lv') ((x1, x2) :: m) from by have := HN2.out; rw [if_neg hx] at this; exact this)
        clear HN2 hsg'
        go_wp2_with fail
        go_roundw
        case rel => exact ⟨i + 1, tk', lv', (x1, x2) :: m, a1, a2, t1, t2, n1, c1, n2, c2, rfl, by go_num, by omega, HN3, KB9, HRR, LB9, LB7, K3, K4, KB7, HB⟩
        case measure => simp [intOf]; omega
    · obtain rfl : i = n := by omega
      have hf := HFN.out _ o HI.out
      obtain ⟨rfl, rfl⟩ : tk' = tk ∧ lv' = lv := by injection hf with h1 h2; exact ⟨h1.symm, h2.symm⟩
      clear hf HI
      have hle1 : ¬ (i : Int) + 1 ≤ (i : Int) := by omega
      obtain ⟨wx, hwx⟩ : ∃ wo, wo = wr := ⟨_, rfl⟩
      subst hwx
      go_wp2_with fail
      refine wp_region_quiet_tail 3 (fun w' => Below (World.heap wx).size (wx) w') (by kernel_rfl) (by kernel_rfl) (Below.refl _ _).drew ?_
      simp only [List.take_succ_cons, List.take_zero, List.drop_succ_cons, List.drop_zero]
      refine WQ.out ?_
      repeat (first | (refine WQ_no (by rfl) ?_; (simp only [Act.put, zzT, zzO, zzS])) | (refine WQ_yes (by rfl) ?_; apply Exists.intro; refine ⟨fun w1 hb1 => ?_, ?_⟩; (focus (((obtain ⟨-, k9, -⟩ := KB9.out.to hb1); have hb1 := zH hb1; go_simp); (try (go_bits; try go_simp)); (try (rw [if_pos (by omega)]; try go_simp)); (first | done | (with_reducible rfl) | exact rfl))); (simp only [Act.put, zzT, zzO, zzS])))
      refine WQ_nil ?_
      intro w1 hb1
      replace KB7 := zH (KB7.out.to hb1)
      replace HRR := zH (HRR.out.to hb1)
      replace HB := zH (bThen HB.out hb1)
      clear hb1 KB9 K3 K4
      obtain ⟨-, k7, f7⟩ := KB7.out
      go_wp2_with fail
      clear k7 f7
      have F := (KB7.out.st4 (.int .i64 t1) (.slice a1 n1 c1) (.int .i64 t2) (.slice a2 n2 c2)).2.1
      have F0 := F 0; have F1 := F 1; have F2 := F 2; have F3 := F 3
      unfold st4 at F0 F1 F2 F3
      clear F
      refine bodyPost_ret (v := .tuple #[.int .i64 tk', .agg #[.int .i64 t1, .slice a1 n1 c1, .int .i64 t2, .slice a2 n2 c2]]) ?_ rfl ⟨a1, a2, _, rfl, HRR.out.st4 LB7.out _ _ _ _, HB.out.trans (below_st4 w1 (by rw [HW3.out]; exact hw7.out) _ _ _ _)⟩
      simp [results, Tryz.results75, go_sem, F0, F1, F2, F3]
end
section
open Go.RowKit
attribute [local go_sem] Oper.semAt_some

/-- ReachedBy's answer and its error. -/
def rchE (p : Plt) (s : OSt) (c : List (Int × Int)) : Int := if opCE p s.1 c = 0 then (if (rchR p [s] c).isSome then 0 else 22) else opCE p s.1 c
def rchO (p : Plt) (s : OSt) (c : List (Int × Int)) : List OSt := if opCE p s.1 c = 0 then (rchR p [s] c).getD [] else []

structure RbJ (b6 b10 base : Nat) (w : World) (v : Value) (L : List OSt) (M1 : Nat → Prop) (W : World) : Prop where
  k6 : Blk W b6 #[.slice none 0 0]
  k7 : Blk W (b6 + 1) #[.int .i64 0]
  k10 : Blk W b10 #[v]
  own : W.ownsRow base stT 2 v L.length (scells L)
  be : Below w.heap.size w W
  lt : w.heap.size ≤ b6 ∧ b6 + 1 < b10 ∧ b10 < base
  m6 : M1 b6 ∧ M1 (b6 + 1) ∧ M1 b10
  mv : ∀ k, v.ownBlock = some k → M1 k
  fit : ∀ k, M1 k → k < W.heap.size
theorem RbJ.to {b6 b10 base : Nat} {w : World} {v : Value} {L : List OSt} {M1 : Nat → Prop} {W W' : World} (h : RbJ b6 b10 base w v L M1 W) (hb : Below W.heap.size W W') : RbJ b6 b10 base w v L M1 W' :=
  ⟨h.k6.to hb, h.k7.to hb, h.k10.to hb, owns_to h.own hb, bThen h.be hb, h.lt, h.m6, h.mv, fun k hk => Nat.lt_of_lt_of_le (h.fit k hk) hb.size⟩
theorem RbJ.agree {b6 b10 base : Nat} {w : World} {v : Value} {L : List OSt} {M1 : Nat → Prop} {B : Nat} {W W' : World} (h : RbJ b6 b10 base w v L M1 W) (hag : Agree B M1 W W') (hB : b10 < B) : RbJ b6 b10 base w v L M1 W' := by
  obtain ⟨l1, l2, l3⟩ := h.lt
  have hb := hag.below
  refine ⟨h.k6.below hb (by omega), h.k7.below hb (by omega), h.k10.below hb (by omega), ⟨h.own.1, ?_⟩, h.be.trans (hb.mono (by omega)), h.lt, h.m6, h.mv, fun k hk => Nat.lt_of_lt_of_le (h.fit k hk) hag.size⟩
  rcases h.own.2 with hn | ⟨g, cap, cur, e, hbg, hg, rest⟩
  · exact .inl hn
  · exact .inr ⟨g, cap, cur, e, hbg, (hag.same g (Array.getElem?_eq_some_iff.1 hg).1 (h.mv g (by rw [e]; rfl))).trans hg, rest⟩
theorem RbJ.nil {b6 b10 base : Nat} {w : World} {v : Value} {L : List OSt} {M1 : Nat → Prop} {W : World} (h : RbJ b6 b10 base w v L M1 W) : RbJ b6 b10 base w (.slice none 0 0) [] M1 (W.setCell ⟨b10, 0, none⟩ (.slice none 0 0)) := by
  obtain ⟨l1, l2, l3⟩ := h.lt
  exact ⟨h.k6.other (p := ⟨b10, 0, none⟩) (show b10 ≠ b6 by omega) _, h.k7.other (p := ⟨b10, 0, none⟩) (show b10 ≠ b6 + 1 by omega) _, h.k10.set 0 _, ⟨rfl, .inl ⟨rfl, rfl⟩⟩, h.be.setCell (p := ⟨b10, 0, none⟩) (show w.heap.size ≤ b10 by omega) _, h.lt, h.m6, fun k hk => (by cases hk), fun k hk => by simpa [World.setCell] using h.fit k hk⟩
theorem RbJ.app {b6 b10 base : Nat} {w : World} {v : Value} {L : List OSt} {M1 : Nat → Prop} {W : World} (h : RbJ b6 b10 base w v L M1 W) (o : Obj) {w1 : World} {v' : Value} {s : OSt}
    (hown' : w1.ownsRow base stT 2 v' (L.length + 1) (scells L ++ [.int .i64 s.1, .bool s.2])) (hg : (W.alloc o).grownBy w1 v.ownBlock) (hw : v'.ownBlock = v.ownBlock ∨ v'.ownBlock = some (W.heap.size + 1)) :
    RbJ b6 b10 base w v' (L ++ [s]) (fun k => M1 k ∨ v'.ownBlock = some k) (w1.setCell ⟨b10, 0, none⟩ v') ∧ Upd M1 (fun k => M1 k ∨ v'.ownBlock = some k) W (w1.setCell ⟨b10, 0, none⟩ v') := by
  obtain ⟨l1, l2, l3⟩ := h.lt
  have HU := upd_appended (M := M1) (B := b10) h.fit h.m6.2.2 h.mv hown' hg hw
  have hne : ∀ b, b < base → v.ownBlock ≠ some b := fun b hb e => by have := (h.own.lt b e).1; omega
  have key : ∀ {b : Nat} {cs : Array Value}, Blk W b cs → b < base → b ≠ b10 → Blk (w1.setCell ⟨b10, 0, none⟩ v') b cs := fun hk h1 h2 => (blk_grown (hk.alloc o) hg (hne _ h1)).other (p := ⟨b10, 0, none⟩) (fun e => h2 e.symm) _
  have hsz := h.be.size
  have hs2 := hg.size
  simp only [World.size_alloc] at hs2
  refine ⟨⟨key h.k6 (by omega) (by omega), key h.k7 (by omega) (by omega), (blk_grown (h.k10.alloc o) hg (hne _ l3)).set 0 _, ?_, ?_, h.lt, ⟨.inl h.m6.1, .inl h.m6.2.1, .inl h.m6.2.2⟩, fun k hk => .inr hk, HU.fit⟩, HU⟩
  · rw [scells_app]
    have : (L ++ [s]).length = L.length + 1 := by simp
    rw [this]
    exact owns_set hown' (p := ⟨b10, 0, none⟩) l3
  · exact ((bAlloc h.be o).grown hg (by simp; omega) (fun k e => by have := (h.own.lt k e).1; omega)).setCell (p := ⟨b10, 0, none⟩) (show w.heap.size ≤ b10 by omega) _
/-- What has been yielded so far. -/
def RbI (xs : List TkI) (b6 b10 base : Nat) (w : World) (pre : List TkI) (M1 : Nat → Prop) (W : World) : Prop :=
  ∃ (v : Value) (L : List OSt), (∀ rest, xs = pre ++ rest → lstA xs [] = lstA rest L) ∧ L.Nodup ∧ L.length ≤ 402 ∧ RbJ b6 b10 base w v L M1 W
/-- Where some demands empty the plant. -/
def RbX (xs : List TkI) (b6 : Nat) (w W : World) : Prop :=
  lstA xs [] = none ∧ Blk W b6 #[.slice none 0 0] ∧ Blk W (b6 + 1) #[.int .i64 22] ∧ Below w.heap.size w W ∧ w.heap.size ≤ W.heap.size
theorem RbX.putObj {xs : List TkI} {b6 : Nat} {w W : World} (h : RbX xs b6 w W) {l : Nat} (o : Obj) (h1 : b6 + 1 < l) (h2 : w.heap.size ≤ l) : RbX xs b6 w (W.putObj l o) := by
  obtain ⟨e, k1, k2, hb, hs⟩ := h
  exact ⟨e, blk_grown k1 (grownBy_putObj' W l o) (fun e => by injection e with e; omega), blk_grown k2 (grownBy_putObj' W l o) (fun e => by injection e with e; omega), hb.grown (grownBy_putObj' W l o) hs (fun k e => by cases e; exact h2), by rw [putObj_size']; exact hs⟩
theorem two_set {W w : World} {b6 : Nat} {x6 x7 : Value} (k6 : Blk W b6 #[x6]) (k7 : Blk W (b6 + 1) #[x7]) (hb : Below w.heap.size w W) (hw : w.heap.size ≤ b6) (v6 v7 : Value) :
    Blk ((W.setCell ⟨b6, 0, none⟩ v6).setCell ⟨b6 + 1, 0, none⟩ v7) b6 #[v6] ∧ Blk ((W.setCell ⟨b6, 0, none⟩ v6).setCell ⟨b6 + 1, 0, none⟩ v7) (b6 + 1) #[v7] ∧
    Below w.heap.size w ((W.setCell ⟨b6, 0, none⟩ v6).setCell ⟨b6 + 1, 0, none⟩ v7) := by
  refine ⟨?_, ?_, ?_⟩
  · exact (k6.set 0 v6).other (p := ⟨b6 + 1, 0, none⟩) (show b6 + 1 ≠ b6 by omega) _
  · exact (k7.other (p := ⟨b6, 0, none⟩) (show b6 ≠ b6 + 1 by omega) v6).set 0 v7
  · exact (hb.setCell (p := ⟨b6, 0, none⟩) hw _).setCell (p := ⟨b6 + 1, 0, none⟩) (show w.heap.size ≤ b6 + 1 by omega) _
theorem upd_two {W Wa : World} {M M1 : Nat → Prop} {b6 : Nat} (hU : Upd M M1 Wa W) (m : M1 b6 ∧ M1 (b6 + 1)) (v6 v7 : Value) : Upd M M1 Wa ((W.setCell ⟨b6, 0, none⟩ v6).setCell ⟨b6 + 1, 0, none⟩ v7) := by
  have h1 := hU.trans (Upd.setCell hU.fit ⟨b6, 0, none⟩ v6 m.1)
  exact h1.trans (Upd.setCell h1.fit ⟨b6 + 1, 0, none⟩ v7 m.2)
theorem rch_some {p : Plt} {s : OSt} {c : List (Int × Int)} {k : List OSt} (h : lstA (tks p c [(s, [])]) [] = some k) {l : List OSt} (hs : SrtS l) (hm : ∀ x, x ∈ l ↔ x ∈ k) : rchR p [s] c = some l := by
  obtain ⟨h1, h2⟩ := rch_law (p := p) c [(s, [])] [s] [] (List.pairwise_singleton _ _) (fun x => by simp [sts])
  cases hr : rchR p [s] c with
  | none => rw [h1.1 hr] at h; cases h
  | some m =>
    obtain ⟨h3, k', e, h4⟩ := h2 m hr
    rw [h] at e; cases e
    rw [srt_ext h3 hs (fun x => (h4 x).trans (hm x).symm)]
theorem rch_none {p : Plt} {s : OSt} {c : List (Int × Int)} (h : lstA (tks p c [(s, [])]) [] = none) : rchR p [s] c = none :=
  (rch_law (p := p) c [(s, [])] [s] [] (List.pairwise_singleton _ _) (fun x => by simp [sts])).1.2 h

set_option maxHeartbeats 12800000 in
set_option maxRecDepth 100000 in
theorem ReachedBy_any (p : Plt) (s : OSt) (c : List (Int × Int)) (a ac : Option Addr) (cap cc : Nat) (w : World) (hlen : p.pts.length ≤ 1000) (hlc : c.length ≤ maxLen) (hrc : Reads w ac (c.length * 2) (fracs c)) (hr : Reads w a (p.pts.length * 2) (fracs p.pts)) :
    Calls Tryz.prog 67 #[.agg (plC p a cap), .agg #[.int .i64 s.1, .bool s.2], .slice ac c.length cc] w (SPost (rchO p s c) (rchE p s c) w) := by
  have HO := zH (fun W (hb : Below w.heap.size w W) => openClass_any p s c a ac cap cc W hlen hlc (hrc.to hb) (hr.to hb))
  have HA : Hid (rchO p s c = if opCE p s.1 c = 0 then (rchR p [s] c).getD [] else []) := zH rfl
  have HE : Hid (rchE p s c = if opCE p s.1 c = 0 then (if (rchR p [s] c).isSome then 0 else 22) else opCE p s.1 c) := zH rfl
  have HRS := zH (fun (k : List OSt) (h : lstA (tks p c [(s, [])]) [] = some k) (l : List OSt) hs hm => rch_some h (l := l) hs hm)
  have HRN := zH (fun (h : lstA (tks p c [(s, [])]) [] = none) => rch_none h)
  obtain ⟨ro, hro⟩ : ∃ e, rchO p s c = e := ⟨_, rfl⟩
  obtain ⟨re, hre⟩ : ∃ e, rchE p s c = e := ⟨_, rfl⟩
  have HPO : Hid (∀ e w', SPost ro re w e w' ↔ ∃ a' c', e = .returned (.tuple #[.slice a' ro.length c', .int .i64 re]) ∧ ro.length ≤ c' ∧ Reads w' a' (ro.length * 2) (osts ro) ∧ Below w.heap.size w w' ∧ ∀ q, a' = some q → w.heap.size ≤ q.block) := zH (fun e w' => Iff.rfl)
  rw [hro] at HA ⊢
  rw [hre] at HE ⊢
  obtain ⟨PO, hPO⟩ : ∃ PO, SPost ro re w = PO := ⟨_, rfl⟩
  rw [hPO] at HPO ⊢
  clear hro hre hPO
  by_cases h0 : opCE p s.1 c = 0
  · obtain ⟨hp, hs, hcl⟩ := opCE_ok h0
    rw [if_pos h0] at HA HE
    rw [h0] at HO
    have HT := zH (fun al cap' cl bs bc bp W hF => ticks1_in 3 p s c a al ac cap' cl cc bs bc bp W hp hs hcl hF)
    have HRC := zH hrc
    have HTK := zH (fun al cl W => ticks_any p s a al ac cap cl c.length cc W)
    have HP := zH hp
    have HS := zH hs
    obtain ⟨xs, hxs⟩ : ∃ xs, tks p c [(s, [])] = xs := ⟨_, rfl⟩
    have HXS := zH hxs
    have HCN := zH hcl.1
    rw [hxs] at HT HRS HRN
    obtain ⟨rr, hrr⟩ : ∃ r, rchR p [s] c = r := ⟨_, rfl⟩
    rw [hrr] at HRS HRN HA HE
    clear hp hs hcl h0 hrc hr hxs hlen hlc hrr
    obtain ⟨s1, sr⟩ := s
    dsimp only at HTK HO HA HE ⊢
    refine (callsIn_wide (n := 4)).1 ?_
    refine callsIn_of_wp_marks Tryz.func67 rfl trivial ?_ rfl
    simp only [Tryz.ntmps67, List.size_toArray, List.length_cons, List.length_nil, Nat.reduceAdd, Nat.reduceSub, Array.replicate_succ, Array.replicate_zero, List.push_toArray, List.append_toArray, List.nil_append, List.cons_append]
    gi_wp2_with fail
    refine ⟨trivial, (callsIn_wide.2 (HO.out _ (bAlloc (bAlloc (bAlloc (bAlloc (bSelf w) _) _) _) _))).mono ?_⟩
    intro e w1 hpost
    obtain ⟨al, cl, rfl, hcl, hrd, hb, hfr⟩ := hpost.ex
    have K4 : Hid (Blk w1 (w.heap.size + 1) #[.int .i64 s1, .bool sr]) := zH ((((Blk.newAt _ _ _ (by simp)).alloc _).alloc _).to hb)
    have K6 : Hid (Blk w1 (w.heap.size + 1 + 1) #[.slice none 0 0]) := zH (((Blk.newAt _ _ _ (by simp)).alloc _).to hb)
    have K7 : Hid (Blk w1 (w.heap.size + 1 + 1 + 1) #[.int .i64 0]) := zH ((Blk.newAt _ _ _ (by simp)).to hb)
    have HB := zH (bThen (bAlloc (bAlloc (bAlloc (bAlloc (bSelf w) _) _) _) _) hb)
    have HRD := zH hrd
    have hsw : w.heap.size + 1 + 1 + 1 + 1 ≤ w1.heap.size := by have := hb.size; simpa using this
    have HSW := zH hsw
    have HAL : Hid (∀ q, al = some q → w.heap.size + 1 + 1 + 1 < q.block ∧ q.block < w1.heap.size) := zH (fun q hq => by
      have h1 := hfr q hq
      simp only [World.size_alloc] at h1
      have h2 := HP.out.pts.two
      obtain ⟨b', off', e', h, -⟩ := hrd.at (k := 0) (by omega)
      rw [hq] at e'; injection e' with e'; subst e'
      exact ⟨by omega, h⟩)
    clear hb hrd hpost hfr HO hsw
    have k1 := K4.out.c1
    have k2 := K4.out.c2
    gi_wp2_with fail
    clear k1 k2
    obtain ⟨W4, hW4⟩ : ∃ W4, ((w1.alloc (.cells (plL p a cap al cl) 170)).alloc (.cells #[.slice none 0 0] 49)) = W4 := ⟨_, rfl⟩
    rw [hW4]
    have hb4 : Below w1.heap.size w1 W4 := by subst hW4; exact bAlloc (bAlloc (bSelf w1) _) _
    have K10 : Hid (Blk W4 (w1.heap.size + 1) #[.slice none 0 0]) := by subst hW4; exact zH (Blk.newAt _ _ _ (by simp))
    have hs4 : W4.heap.size = w1.heap.size + 1 + 1 := by subst hW4; simp
    clear hW4
    refine ⟨trivial, (callsIn_wide.2 (HTK.out al cl W4)).mono ?_⟩
    rintro e w' ⟨rfl, rfl⟩
    obtain ⟨W5, hW5⟩ : ∃ W5, ((W4.alloc (.cells (plL p a cap al cl) 170)).alloc (.cells #[.int .i64 s1, .bool sr] 46)).alloc (.cells #[.slice ac c.length cc] 65) = W5 := ⟨_, rfl⟩
    rw [hW5]
    have hb5 : Below W4.heap.size W4 W5 := by subst hW5; exact bAlloc (bAlloc (bAlloc (bSelf W4) _) _) _
    have hs5 : W5.heap.size = w1.heap.size + 5 := by subst hW5; simp [hs4]
    have hb35 : Below w1.heap.size w1 W5 := bThen hb4 hb5
    have HB5 : Hid (Below w.heap.size w W5) := zH (bThen HB.out hb35)
    have HF : Hid (TkF p (s1, sr) c a al ac cap cl cc (W4.heap.size + 1) (W4.heap.size + 1 + 1) W4.heap.size W5) := by
      have h1 := HRD.out.to hb35
      subst hW5
      exact zH ⟨(Blk.newAt _ _ _ (by simp)).alloc _, Blk.newAt _ _ _ (by simp), ((Blk.new _ _ _).alloc _).alloc _, h1, HRC.out.to HB5.out⟩
    have hsw := HSW.out
    have HJ0 : Hid (RbJ (w.heap.size + 1 + 1) (w1.heap.size + 1) (w1.heap.size + 2) w (.slice none 0 0) [] (fun k => k = w.heap.size + 1 + 1 ∨ k = w.heap.size + 1 + 1 + 1 ∨ k = w1.heap.size + 1) W5) := zH
      ⟨K6.out.to hb35, K7.out.to hb35, K10.out.to hb5, ⟨rfl, .inl ⟨rfl, rfl⟩⟩, HB5.out, by omega, by simp, fun k hk => (by cases hk), fun k hk => by omega⟩
    have HSQ := HT.out _ _ _ _ _ _ W5 HF.out
    have HRD5 : Hid (∀ k, TkR p c al ac (W4.heap.size + 1) (W4.heap.size + 1 + 1) W4.heap.size k → k < W5.heap.size) := zH (fun k hk => HF.out.lt hk)
    have HRM : Hid (∀ k, (k = w.heap.size + 1 + 1 ∨ k = w.heap.size + 1 + 1 + 1 ∨ k = w1.heap.size + 1) → ¬ TkR p c al ac (W4.heap.size + 1) (W4.heap.size + 1 + 1) W4.heap.size k) := zH (fun k hk h => by
      rcases h with h | h | h | ⟨h0, off, e⟩ | ⟨h0, off, e⟩
      · omega
      · omega
      · omega
      · obtain ⟨b', off', e', h, -⟩ := HRC.out.at (k := 0) (by omega)
        rw [e] at e'; cases e'; omega
      · have := HAL.out _ e; dsimp only at this; omega)
    have HOK : Hid (∀ x ∈ xs, LOk p (0 + c.length) x) := zH (by
      rw [← HXS.out]
      exact tks_ok c [((s1, sr), [])] 0 (fun y hy => by simp only [List.mem_cons, List.not_mem_nil, or_false] at hy; subst hy; exact HS.out) (fun y hy => by simp only [List.mem_cons, List.not_mem_nil, or_false] at hy; subst hy; exact Nat.le_refl _) (by simp [sts]))
    have HSQ' := zH HSQ
    have HZ5 := zH hs5
    clear hW5 hb4 hb5 hs4 hb35 hs5 HSQ hsw HTK HT HF K4 K6 K7 K10 HRD
    gi_wp2_with fail
    have hs5 := HZ5.out
    have hsw := HSW.out
    refine wpIn_rangeFunc_V (xs := xs) rfl (by intro args w; go_simp) HSQ'.out (bSelf _) (fun x vs M1 W h => h.size) (fun x vs M1 M0 W h hm => h.less hm) HRD5.out
      (RbI xs (w.heap.size + 1 + 1) (w1.heap.size + 1) (w1.heap.size + 2) w) (fun c pre W => c = .ret ∧ RbX xs (w.heap.size + 1 + 1) w W) _ (fun k hk => ⟨by omega, HRM.out k hk⟩) (fun _ _ _ _ ⟨v, L, h1, h2, h3, h4⟩ hag => ⟨v, L, h1, h2, h3, h4.agree hag (by omega)⟩)
      (fun c pre W1 l o h hl hc => ⟨h.1, h.2.putObj o (by omega) (by omega)⟩)
      (fun b pre x M1 a₁ W => RbI xs (w.heap.size + 1 + 1) (w1.heap.size + 1) (w1.heap.size + 2) w pre M1 W ∧ ∃ v0 v1, TkEnc x #[v0, v1] M1 W ∧ a₁ = { tmps := (((b.tmps.setIfInBounds 29 v0).setIfInBounds 30 v1).setIfInBounds 11 v0).setIfInBounds 12 v1, defers := [] })
      ?hI1 ⟨_, [], fun rest h => by rw [h]; rfl, List.nodup_nil, by simp, HJ0.out⟩ ?hassign ?hbody ?hdone ?hstop
    case hI1 =>
      rintro pre x M1 a₁ Wa l o ⟨⟨v, L, h1, h2, h3, h4⟩, v0, v1, henc, rfl⟩ hl hml hc
      exact ⟨⟨v, L, h1, h2, h3, h4.agree (Agree.putObj _ _ _ hl hml) (by omega)⟩, v0, v1, henc.putObj o hc, rfl⟩
    case hassign =>
      intro l pre x vs rest M1 Wa hxs henc hI hszA
      obtain ⟨a', c', v', ds', rfl, -⟩ := id henc
      have hf : ∀ k, M1 k → k < Wa.heap.size := by obtain ⟨v, L, h1, h2, h3, h4⟩ := hI; exact h4.fit
      clear hs5 hsw
      gi_wp2_with fail
      exact ⟨M1, ⟨hI, _, _, henc, rfl⟩, Upd.refl hf⟩
    case hbody =>
      rintro l pre x rest M1 a₁ Wa hxs ⟨⟨v, L, hso, hnd, hle, hJ⟩, v0, v1, henc, rfl⟩ hszA
      simp only [zzT, zzO, zzS]
      have hok := HOK.out x (by rw [hxs]; simp)
      obtain ⟨now, em⟩ := x
      obtain ⟨na, nc, ve, ds, e, hnc, hLv, hEm⟩ := henc
      injection e with e; injection e with e1 e; injection e with e2 _
      dsimp only at e1 hnc hLv hEm
      subst e1 e2
      have hlen := few_sts HP.out hok.nd hok.st
      dsimp only at hlen
      have HJ := zH hJ
      have HLV := zH hLv
      have HLK := zH hok
      have HW := zH (hso _ hxs)
      have HSO := zH (fun (he : em = none) => (show ∀ rest', xs = (pre ++ [(now, em)]) ++ rest' → lstA xs [] = lstA rest' (sts now) from fun rest' hr => by
        have h1 : xs = pre ++ (now, em) :: rest' := by rw [hr, List.append_assoc]; rfl
        have h2 := hso _ h1
        rw [he] at h2
        rw [h2]
        rfl))
      have hNe : ∀ (w : World) (a : Option Addr) (n c : Nat), Sem.run Tryz.prog (binOp .neq 47 (.slice a n c) (.slice none 0 0)) w = .ok (.bool (!a.isNone)) w := fun w a n c => run_neq_slice_nil_any w _ _ a n c 0 0 Tryz.underlying47
      cases em with
      | some e0 =>
        obtain ⟨ad, ec, hem, -⟩ := hEm
        subst hem
        obtain ⟨h6, k6, f6⟩ := hJ.k6
        obtain ⟨h7, k7, f7⟩ := hJ.k7
        clear hs5 hsw hJ hLv hxs hok hso HSO hnd hle
        gi_wp2_with fail
        have hT := two_set HJ.out.k6 HJ.out.k7 HJ.out.be HJ.out.lt.1 (.slice none 0 0) (.int .i64 22)
        exact ⟨M1, ⟨rfl, HW.out.trans rfl, hT.1, hT.2.1, hT.2.2, hT.2.2.size⟩, upd_two (Upd.refl HJ.out.fit) ⟨HJ.out.m6.1, HJ.out.m6.2.1⟩ _ _⟩
      | none =>
        have hem : v1 = .slice none 0 0 := hEm
        subst hem
        have HU0 : Hid (Upd M1 M1 Wa (Wa.setCell ⟨w1.heap.size + 1, 0, none⟩ (.slice none 0 0))) := zH (Upd.setCell hJ.fit _ _ hJ.m6.2.2)
        have HJN := zH hJ.nil
        have HLN : Hid (LvAt (Wa.setCell ⟨w1.heap.size + 1, 0, none⟩ (.slice none 0 0)) M1 na now ds) := zH (HLV.out.upd HU0.out)
        obtain ⟨h10, k10, f10⟩ := hJ.k10
        clear hs5 hsw hJ hLv hxs hok hso hnd hle HW
        gi_wp2_with fail
        gi_loopw [14, 35] (fun _ v35 wr => ∃ (j : Nat) (v' : Value) (M2 : Nat → Prop), v35 = .int .i64 j ∧ j ≤ now.length ∧ Hid (RbJ (w.heap.size + 1 + 1) (w1.heap.size + 1) (w1.heap.size + 2) w v' ((sts now).take j) M2 wr) ∧ Hid (LvAt wr M2 na now ds) ∧ Hid (Upd M1 M2 Wa wr)) (fun _ v35 _ => now.length - (intOf v35).toNat)
        case atStart => exact ⟨0, _, M1, rfl, Nat.zero_le _, HJN, HLN, HU0⟩
        case round =>
          obtain ⟨j, v2, M2, rfl, hj, HJ1, HLV1, HU1⟩ := hrel
          obtain ⟨wo, hwo⟩ : ∃ wo, wo = wr := ⟨_, rfl⟩
          subst hwo
          by_cases hlj : j < now.length
          · obtain ⟨bn, on, rfl, hbn, hcn⟩ := (HLV1.out.rd).at (k := j * 3) (by omega)
            obtain ⟨⟨⟨av, ar⟩, dl⟩, haj⟩ : ∃ x, ag now j = x := ⟨_, rfl⟩
            obtain ⟨⟨dA, dC⟩, hdj⟩ : ∃ x, ds j = x := ⟨_, rfl⟩
            have e0 : wo.cell? ⟨bn, on + j * 3, none⟩ = some (.int .i64 av) := by have := hcn (j * 3) (by omega); rw [arrF0, haj] at this; exact this
            have e1 : wo.cell? ⟨bn, on + j * 3 + 1, none⟩ = some (.bool ar) := by have := hcn (j * 3 + 1) (by omega); rw [arrF1, haj] at this; exact this
            have e2 : wo.cell? ⟨bn, on + j * 3 + 1 + 1, none⟩ = some (.slice dA dl.length dC) := by have := hcn (j * 3 + 1 + 1) (by omega); rw [arrF2, haj, hdj] at this; exact this
            have hfold : (sts now).take (j + 1) = (sts now).take j ++ [(av, ar)] := by
              have hl : j < (sts now).length := by unfold sts; rw [List.length_map]; exact hlj
              rw [List.take_succ_eq_append_getElem hl]
              have e : (sts now)[j]'hl = (now[j]'hlj).1 := List.getElem_map _
              rw [e, ← ag_lt hlj, haj]
            have htl : ((sts now).take j).length = j := by unfold sts; rw [List.length_take, List.length_map]; omega
            have HFO := zH hfold
            obtain ⟨Lj, hLj⟩ : ∃ l, (sts now).take j = l := ⟨_, rfl⟩
            rw [hLj] at HJ1 HFO htl
            clear hLj
            obtain ⟨W6, hW6⟩ : ∃ W6, wo.alloc (.cells #[.int .i64 av, .bool ar, .slice dA dl.length dC] 209) = W6 := ⟨_, rfl⟩
            have HJ6 : Hid (RbJ (w.heap.size + 1 + 1) (w1.heap.size + 1) (w1.heap.size + 2) w v2 Lj M2 W6) := by subst hW6; exact zH (HJ1.out.to (bAlloc (bSelf _) _))
            have HU6 : Hid (Upd M1 M2 Wa W6) := by subst hW6; exact zH (HU1.out.trans (Upd.of_below HJ1.out.fit (bAlloc (bSelf _) _)))
            have HLV6 : Hid (LvAt W6 M2 (some ⟨bn, on, none⟩) now ds) := by subst hW6; exact zH (HLV1.out.to (bAlloc (bSelf _) _))
            have HK6 : Hid (Blk W6 wo.heap.size #[.int .i64 av, .bool ar, .slice dA dl.length dC]) := by subst hW6; exact zH (Blk.new _ _ _)
            have hs6 : W6.heap.size = wo.heap.size + 1 := by subst hW6; simp
            obtain ⟨va, vc, hv2⟩ := ownsRow_sl HJ6.out.own
            rw [htl] at hv2
            subst hv2
            have HROW := zH (HJ6.out.own.alloc (.cells #[.int .i64 av, .bool ar] 46))
            rw [htl] at HROW
            have HTL := zH htl
            clear hcn haj hdj hfold htl
            obtain ⟨-, k14, -⟩ := HK6.out
            obtain ⟨-, k10, -⟩ := HJ6.out.k10
            have HNN := zH (Blk.new W6 #[.int .i64 av, .bool ar] 46).news
            have hbs := HJ6.out.be.size
            have hlt6 := HJ6.out.lt
            have hlo := HJ6.out.k10.1
            gi_wp2_with (gi_at_builtin; go_loud (refine wpListIn_app (w1.heap.size + 2) rtSt rfl (.tmp 39) (.tmp 42) rfl _ _ _ rfl HROW.out ⟨wo.heap.size + 1, 0, none⟩ 1 1 [.int .i64 av, .bool ar] rfl rfl (by have := HNN.out; rw [hs6] at this; exact this) (onesS [(av, ar)]) (by unfold maxLen; omega) (by omega) (by simp; omega) ?_; intro v' w7 hown' hgrow _ hwhere; obtain ⟨va', vc', rfl⟩ := ownsRow_sl hown'; have HO := zH hown'; have HG7 := zH hgrow; have HW7 := zH hwhere; clear hown' hgrow hwhere; obtain ⟨h10, k10', f10⟩ := blk_grown (HJ6.out.k10.alloc (.cells #[.int .i64 av, .bool ar] 46)) HG7.out (fun e => by have := (HJ6.out.own.lt _ e).1; omega)))
            go_roundw
            case rel =>
              have HAP := HJ6.out.app (.cells #[.int .i64 av, .bool ar] 46) (s := (av, ar)) (by rw [HTL.out]; exact HO.out) HG7.out (HW7.out.imp id (fun h => h.trans (by rw [World.size_alloc])))
              exact ⟨j + 1, _, _, congrArg (Value.int .i64) (by omega), by omega, zH (by rw [HFO.out]; exact HAP.1), zH (HLV6.out.upd HAP.2), zH (HU6.out.trans HAP.2)⟩
            case measure => simp [intOf]; omega
          · obtain rfl : j = now.length := by omega
            have hts : (sts now).take now.length = sts now := List.take_of_length_le (by unfold sts; rw [List.length_map]; exact Nat.le_refl _)
            rw [hts] at HJ1
            gi_wp2_with fail
            refine ⟨M2, ⟨_, _, fun rest' hr => HSO.out (by first | trivial | rfl) rest' hr, HLK.out.nd, ?_, HJ1.out⟩, HU1.out⟩
            have := hlen
            unfold sts; rw [List.length_map]; exact hlen
    case hdone =>
      intro D M1 Wd hD hMD hI hdef
      obtain ⟨v, L, hso, hnd, hle, hJ⟩ := hI
      have hfin : lstA xs [] = some L := by rw [hso [] (by simp)]; rfl
      obtain ⟨va, vc, hv⟩ := ownsRow_sl hJ.own
      subst hv
      obtain ⟨nL, hnL⟩ : ∃ n, L.length = n := ⟨_, rfl⟩
      have HNL := zH hnL
      have HJ := zH hJ
      have HD := zH hdef
      have HMD := zH hMD
      have hDn : w1.heap.size + 5 ≤ D := by omega
      have HSRT := zH (oSort_any L (.slice va L.length vc) (w1.heap.size + 2) Wd hJ.own (by omega) hnd)
      rw [hnL] at HJ HSRT
      have HFIN := zH hfin
      obtain ⟨-, k10, -⟩ := HJ.out.k10
      clear hs5 hsw hJ hdef hfin hso hnd hle hMD hnL
      gi_wp2_with fail
      clear k10
      refine ⟨trivial, (callsIn_wide.2 HSRT.out).mono ?_⟩
      rintro e w8 ⟨rfl, l', hs', hm', hl', hown', hg'⟩
      have hrr : rr = some l' := HRS.out L HFIN.out l' hs' hm'
      have hro : ro = l' := by rw [HA.out, hrr]; rfl
      have hre : re = 0 := by rw [HE.out, hrr]; rfl
      subst hro hre
      have hlt := HJ.out.lt
      have hne : ∀ b, b < w1.heap.size + 2 → (Value.slice va nL vc).ownBlock ≠ some b := fun b hb e => by have := (HJ.out.own.lt b e).1; omega
      have hsw := HSW.out
      have K6 := zH (blk_grown HJ.out.k6 hg' (hne _ (by omega)))
      have K7 := zH (blk_grown HJ.out.k7 hg' (hne _ (by omega)))
      have K10 := zH (blk_grown HJ.out.k10 hg' (hne _ (by omega)))
      have HB8 : Hid (Below w.heap.size w w8) := zH (HJ.out.be.grown hg' HJ.out.be.size (fun k e => by have := (HJ.out.own.lt k e).1; omega))
      have HD8 : Hid (w8.heap[D]? = some (.deferred (some []))) := zH ((hg'.block D (Array.getElem?_eq_some_iff.1 HD.out).1 (fun e => HMD.out (HJ.out.mv D e.symm))).trans HD.out)
      have HO8 := zH hown'
      have HL8 := zH hl'
      obtain ⟨h6, k6, f6⟩ := K6.out
      obtain ⟨h7, k7, f7⟩ := K7.out
      obtain ⟨h10, k10, f10⟩ := K10.out
      clear hs' hm' hl' hown' hg' hne hrr
      gi_wp2_with fail
      obtain ⟨F6, F7, hbb⟩ := two_set K6.out K7.out HB8.out (by omega) (.slice va nL vc) (.int .i64 0)
      have hgD : ((w8.setCell ⟨w.heap.size + 1 + 1, 0, none⟩ (.slice va nL vc)).setCell ⟨w.heap.size + 1 + 1 + 1, 0, none⟩ (.int .i64 0)).heap[D]? = some (.deferred (some [])) := by
        rw [Below.heap_setCell _ _ _ _ (by simp; omega), Below.heap_setCell _ _ _ _ (by simp; omega)]
        exact HD8.out
      have hof := owns_set (owns_set HO8.out (p := ⟨w.heap.size + 1 + 1, 0, none⟩) (x := .slice va nL vc) (by simp; omega)) (p := ⟨w.heap.size + 1 + 1 + 1, 0, none⟩) (x := .int .i64 0) (by simp; omega)
      obtain ⟨W9, hW9⟩ : ∃ W, ((w8.setCell ⟨w.heap.size + 1 + 1, 0, none⟩ (.slice va nL vc)).setCell ⟨w.heap.size + 1 + 1 + 1, 0, none⟩ (.int .i64 0)) = W := ⟨_, rfl⟩
      rw [hW9] at F6 F7 hbb hgD hof ⊢
      clear hW9 k6 k7 k10 f6 f7 f10
      gi_wp2_with fail
      refine ⟨by simp, .inl ⟨_, _, rfl, run_takeDeferred hgD, ?_⟩⟩
      have G6 := (blk_grown F6 (grownBy_putObj' W9 D (.deferred none)) (fun e => by injection e with e; omega)).2.1 0
      have G7 := (blk_grown F7 (grownBy_putObj' W9 D (.deferred none)) (fun e => by injection e with e; omega)).2.1 0
      have hbf := hbb.grown (grownBy_putObj' W9 D (.deferred none)) hbb.size (fun k e => by cases e; omega)
      have hrow2 := ownsRow_putObj hof (.deferred none) hgD rfl
      rw [← HL8.out] at hrow2
      obtain ⟨a', c', hv, hcp, hrdr, hfr⟩ := Reads.of_row (f := osts ro) hrow2 (fun i hi => scells_get _ i hi)
      clear F6 F7
      refine ⟨.tuple #[.slice va nL vc, .int .i64 0], ?_, (HPO.out _ _).2 ⟨a', c', by rw [← HL8.out, hv], hcp, hrdr, hbf, fun q hq => by have := hfr q hq; omega⟩⟩
      simp [results, Tryz.results67, go_sem, G6, G7]
    case hstop =>
      rintro D c' pre x rest Wd hD hxs ⟨rfl, hX⟩ hdef
      have HX := zH hX
      have HD := zH hdef
      have hDn : w1.heap.size + 5 ≤ D := by omega
      have hDw : w.heap.size + 1 + 1 + 1 + 1 ≤ D := by omega
      clear hs5 hsw hX hdef
      gi_wp2_with fail
      refine ⟨by simp, .inl ⟨_, _, rfl, run_takeDeferred HD.out, ?_⟩⟩
      obtain ⟨hno, k1, k2, hb, hs⟩ := HX.out.putObj (.deferred none) (l := D) (by omega) (by omega)
      have G6 := k1.2.1 0
      have G7 := k2.2.1 0
      have hrr := HRN.out hno
      have hro : ro = [] := by rw [HA.out, hrr]; rfl
      have hre : re = 22 := by rw [HE.out, hrr]; rfl
      subst hro hre
      refine ⟨.tuple #[.slice none 0 0, .int .i64 22], ?_, (HPO.out _ _).2 ⟨none, 0, rfl, Nat.le_refl _, .inl rfl, hb, fun q hq => by cases hq⟩⟩
      simp [results, Tryz.results67, go_sem, G6, G7]
  · rw [if_neg h0] at HA HE
    have h0' : (opCE p s.1 c != 0) = true := by simpa using h0
    obtain ⟨oe, hoe⟩ : ∃ e, opCE p s.1 c = e := ⟨_, rfl⟩
    rw [hoe] at HE HO h0'
    obtain rfl : re = oe := HE.out
    obtain rfl : ro = [] := HA.out
    clear h0 hoe hr hrc hlen hlc HA HE HRS HRN
    obtain ⟨s1, sr⟩ := s
    dsimp only at HO ⊢
    go_enter Tryz.func67, Tryz.ntmps67
    go_wp2_with fail
    refine (HO.out _ (bAlloc (bAlloc (bAlloc (bAlloc (bSelf w) _) _) _) _)).mono ?_
    intro e w1 hpost
    obtain ⟨al, cl, rfl, hcl, hrd, hb, hfr⟩ := hpost.ex
    have K6 : Hid (Blk w1 (w.heap.size + 1 + 1) #[.slice none 0 0]) := zH (((Blk.newAt _ _ _ (by simp)).alloc _).to hb)
    have K7 : Hid (Blk w1 (w.heap.size + 1 + 1 + 1) #[.int .i64 0]) := zH ((Blk.newAt _ _ _ (by simp)).to hb)
    have HB := zH (bThen (bAlloc (bAlloc (bAlloc (bAlloc (bSelf w) _) _) _) _) hb)
    clear hb hrd hpost hfr HO
    obtain ⟨W, hW⟩ : ∃ W, w1.alloc (.cells (plL p a cap al cl) 170) = W := ⟨_, rfl⟩
    replace K6 : Hid (Blk W (w.heap.size + 1 + 1) #[.slice none 0 0]) := by subst hW; exact zH (K6.out.alloc _)
    replace K7 : Hid (Blk W (w.heap.size + 1 + 1 + 1) #[.int .i64 0]) := by subst hW; exact zH (K7.out.alloc _)
    replace HB : Hid (Below w.heap.size w W) := by subst hW; exact zH (bAlloc HB.out _)
    subst hW
    obtain ⟨h6, k6, f6⟩ := K6.out
    obtain ⟨h7, k7, f7⟩ := K7.out
    go_wp2_with fail
    obtain ⟨F6, F7, hbb⟩ := two_set K6.out K7.out HB.out (by omega) (.slice none 0 0) (.int .i64 re)
    have G6 := F6.2.1 0
    have G7 := F7.2.1 0
    clear F6 F7 k6 k7 f6 f7
    refine bodyPost_ret (v := .tuple #[.slice none 0 0, .int .i64 re]) ?_ rfl ((HPO.out _ _).2 ⟨none, 0, rfl, Nat.le_refl _, .inl rfl, hbb, fun q hq => by cases hq⟩)
    simp [results, Tryz.results67, go_sem, G6, G7]
end
section
open Go.RowKit
attribute [local go_sem] Oper.semAt_some

theorem cls_bad {p : Plt} {s : OSt} {c : List (Int × Int)} (h : opCE p s.1 c ≠ 0) : rchE p s c = opCE p s.1 c ∧ rchO p s c = [] ∧ lwtE p s c = opCE p s.1 c ∧ lwtA p s c = (0, (0, 0)) := by
  unfold rchE rchO lwtE lwtA
  rw [if_neg h, if_neg h, if_neg h, if_neg h]
  exact ⟨rfl, rfl, rfl, rfl⟩
theorem low_at {p : Plt} {s : OSt} {c : List (Int × Int)} (h : opCE p s.1 c = 0) : (rchR p [s] c = none → lowO p s c = none) ∧ (rchR p [s] c ≠ none → lowO p s c = some (lowR p 0 (0, s.1) [s] c)) := by
  obtain ⟨h1, h2⟩ := low_law (p := p) c [(s, [])] [s] 0 (0, s.1) (fun r hr => by
    obtain ⟨k, hk, e⟩ := List.getElem_of_mem hr
    have := ((opCE_ok h).2.2.2 k hk).2.2
    rw [fg_mem hk, e] at this
    exact this) (List.pairwise_singleton _ _) (by simp) (fun x => by simp [sts])
  have e : lowL 0 (0, s.1) [(s, [])] = (0, s.1) := by
    show lowD 0 (0, s.1) (s, []) = _
    unfold lowD
    rw [if_neg (by dsimp only; omega)]
  rw [e] at h2
  exact ⟨h1, h2⟩
theorem lowR_rng {p : Plt} (hp : PltOk p) : ∀ (rs : List (Int × Int)) (k : Int) (st : Int × Int) (l : List OSt), 0 ≤ st.2 ∧ st.2 ≤ capV p.pts → 0 ≤ (lowR p k st l rs).2 ∧ (lowR p k st l rs).2 ≤ capV p.pts
  | [], k, st, l, h => h
  | r :: rs, k, st, l, h => by
    show 0 ≤ (lowR p (k + 1) (if ((aftR p r l).headD (0, false)).1 < st.2 then (k + 1, ((aftR p r l).headD (0, false)).1) else st) (aftR p r l) rs).2 ∧ _
    refine lowR_rng hp rs _ _ _ ?_
    split
    · cases e : aftR p r l with
      | nil => exact ⟨Int.le_refl _, by have := cap_pos hp; show (0 : Int) ≤ _; omega⟩
      | cons x m => exact aftR_ok (p := p) (r := r) (l := l) (by rw [e]; exact List.mem_cons_self ..)
    · exact h
theorem cls_none {p : Plt} {s : OSt} {c : List (Int × Int)} (h : opCE p s.1 c = 0) (hr : rchR p [s] c = none) : rchE p s c = 22 ∧ rchO p s c = [] ∧ lwtE p s c = 22 ∧ lwtA p s c = (0, (0, 0)) := by
  have hl := (low_at h).1 hr
  unfold rchE rchO lwtE lwtA
  rw [if_pos h, if_pos h, if_pos h, if_pos h, hr, hl]
  exact ⟨rfl, rfl, rfl, rfl⟩
theorem cls_some {p : Plt} {s : OSt} {c : List (Int × Int)} {M : List OSt} (h : opCE p s.1 c = 0) (hr : rchR p [s] c = some M) :
    rchE p s c = 0 ∧ rchO p s c = M ∧ lwtE p s c = 0 ∧ lwtA p s c = ((lowR p 0 (0, s.1) [s] c).1, rPr p.pts (lowR p 0 (0, s.1) [s] c).2) ∧ SmF (rPr p.pts (lowR p 0 (0, s.1) [s] c).2) := by
  have hl := (low_at h).2 (by rw [hr]; simp)
  obtain ⟨hp, hs, -, -⟩ := opCE_ok h
  obtain ⟨v0, v1⟩ := lowR_rng hp c 0 (0, s.1) [s] hs
  have hq := smF_frQ (QOk.of_pts hp.pts v0 v1)
  rw [← rPr_eq hp.pts v0 v1] at hq
  unfold rchE rchO lwtE lwtA
  rw [if_pos h, if_pos h, if_pos h, if_pos h, hr, hl]
  refine ⟨rfl, rfl, rfl, ?_, hq⟩
  dsimp only
  rw [rPr_eq hp.pts v0 v1]
theorem rch_lenS {p : Plt} (hp : PltOk p) : ∀ (rs : List (Int × Int)) (l M : List OSt), l.length ≤ 402 → rchR p l rs = some M → M.length ≤ 402
  | [], l, M, h, e => by cases e; exact h
  | r :: rs, l, M, h, e => by
    have e2 : rchR p l (r :: rs) = if EmpB p r l = true then none else rchR p (aftR p r l) rs := rfl
    rw [e2] at e
    split at e
    · cases e
    · exact rch_lenS hp rs _ M (StI.aft1 hp r l).len e
theorem scl_out {c : List (Int × Int)} {pc : Int} : ((chCl c).2 ≠ 0 → sclE c pc = (chCl c).2 ∧ sclO c pc = []) ∧ ((chCl c).2 = 0 → wthn pc 0 200 = false → sclE c pc = 2 ∧ sclO c pc = []) ∧
    ((chCl c).2 = 0 → wthn pc 0 200 = true → sclE c pc = unl (sclQ pc c).isSome 8 ∧ sclO c pc = (sclQ pc c).getD []) := by
  unfold sclE sclO
  refine ⟨fun h => ?_, fun h1 h2 => ?_, fun h1 h2 => ?_⟩
  · rw [if_neg h, if_neg h]; exact ⟨rfl, rfl⟩
  · rw [if_pos h1, if_pos h1, h2]; exact ⟨rfl, rfl⟩
  · rw [if_pos h1, if_pos h1, h2]; exact ⟨rfl, rfl⟩
theorem clss_22 {c : List (Int × Int)} (h : clssB c = true) : c.length ≤ 22 := by
  unfold clssB at h
  by_cases h1 : 22 < c.length
  · rw [if_pos h1] at h; cases h
  · omega

set_option maxHeartbeats 12800000 in
set_option maxRecDepth 100000 in
theorem OilClasses_any (p : Plt) (s : OSt) (c : List (Int × Int)) (pc : Int) (a ac : Option Addr) (cap cc : Nat) (w : World) (hlc : c.length ≤ maxLen) (hcc : c.length ≤ cc) (hr : Reads w a (p.pts.length * 2) (fracs p.pts)) (hrc : Reads w ac (c.length * 2) (fracs c)) :
    Calls Tryz.prog 11 #[.agg (plC p a cap), .agg #[.int .i64 s.1, .bool s.2], .agg #[.slice ac c.length cc, .int .i64 pc]] w fun e w' => e = .returned (.bool true) ∧ Below w.heap.size w w' := by
  have HAW := zH (fun W => oAwake_any W)
  have HFW := zH (fun W => lFew_any p a cap W)
  have HCL := zH (fun W (hb : Below w.heap.size w W) => lClasses_any c ac cc W (hrc.to hb))
  have HC22 : Hid (clssB c = true → c.length ≤ 22) := zH (fun h => clss_22 h)
  have HCPY := zH (fun W (h10 : p.pts.length ≤ 10) (hb : Below w.heap.size w W) => rCopyPlant_any p a cap W (by omega) (hr.to hb))
  have HCR := zH (fun W (h3 : c.length ≤ 22) (hb : Below w.heap.size w W) => CopyRanges_any c ac cc W (by omega) (hrc.to hb))
  have HCK := zH (fun W a2 c2 h => CheckClass_any c a2 c2 W hlc h)
  have HRB := zH (fun W a1 c1 a2 c2 (h10 : p.pts.length ≤ 10) h1 h2 => ReachedBy_any p s c a1 a2 c1 c2 W (by omega) hlc h2 h1)
  have HLW := zH (fun W a1 c1 a2 c2 (h10 : p.pts.length ≤ 10) h1 h2 => LowestIn_any p s c a1 a2 c1 c2 W (by omega) hlc h2 h1)
  have HSC := zH (fun W a2 c2 h => Scaled_any c pc a2 c2 W hlc h)
  have HRK := zH (fun W (hb : Below w.heap.size w W) => rCheckClass_any c ac cc W (hrc.to hb))
  have HWI := zH (fun W => bWithin_any pc 0 200 W)
  have HRS := zH (fun W (h0 : (chCl c).2 = 0) (hw : wthn pc 0 200 = true) (hb : Below w.heap.size w W) => rScaled_any c pc ac cc W (chCl_ok h0).1 (chCl_ok h0).2 (wthn_iff.1 hw) (hrc.to hb))
  have HRG := zH (fun (m : List (Int × Int)) W a1 a2 c1 c2 (hm : m.length ≤ maxLen) h1 h2 => by
    have := Ranges_any m m a1 a2 c1 c2 W hm h1 h2
    rw [decide_eq_true (show m = m from rfl)] at this
    exact this)
  have HOE := zH (fun W (h10 : p.pts.length ≤ 10) (hb : Below w.heap.size w W) => lOpenErr_any p s c a ac cap cc W (by omega) (hr.to hb) (hrc.to hb))
  have HRR := zH (fun W (h : opCE p s.1 c = 0) (hb : Below w.heap.size w W) => rReached_any p s c a ac cap cc W (opCE_ok h).1 (opCE_ok h).2.1 (opCE_ok h).2.2.1 (opCE_ok h).2.2.2 (hr.to hb) (hrc.to hb))
  have HLO := zH (fun W (h : opCE p s.1 c = 0) (hno : rchR p [s] c ≠ none) (hb : Below w.heap.size w W) => rLowest_any p s c a ac cap cc W (opCE_ok h).1 (opCE_ok h).2.1 (opCE_ok h).2.2.1 hcc (opCE_ok h).2.2.2 hno (hr.to hb) (hrc.to hb))
  have HBAD := zH (fun (h : opCE p s.1 c ≠ 0) => cls_bad h)
  have HNON := zH (fun (h : opCE p s.1 c = 0) hr => cls_none h hr)
  have HSOM := zH (fun M (h : opCE p s.1 c = 0) hr => cls_some (M := M) h hr)
  have HM4 := zH (fun M (h : opCE p s.1 c = 0) (hr : rchR p [s] c = some M) => rch_lenS (opCE_ok h).1 c [s] M (by simp) hr)
  have HSO := zH (scl_out (c := c) (pc := pc))
  have HSL : Hid (∀ m, sclQ pc c = some m → m.length = c.length) := zH (fun m h => (sclQ_len h).1)
  have HCE : Hid ((chCl c).2 ≠ 0 → opCE p s.1 c ≠ 0) := zH (fun h h2 => h (firstE2.1 (show firstE [_, _] = 0 from h2)).2)
  obtain ⟨m, hm⟩ : ∃ n, p.pts.length = n := ⟨_, rfl⟩
  obtain ⟨n, hn⟩ : ∃ n, c.length = n := ⟨_, rfl⟩
  obtain ⟨b1, hb1⟩ : ∃ b, clssB c = b := ⟨_, rfl⟩
  obtain ⟨⟨k1, k2⟩, hk⟩ : ∃ b, chCl c = b := ⟨_, rfl⟩
  obtain ⟨oe, hoe⟩ : ∃ b, opCE p s.1 c = b := ⟨_, rfl⟩
  obtain ⟨wi, hwi⟩ : ∃ b, wthn pc 0 200 = b := ⟨_, rfl⟩
  obtain ⟨rE, hrE⟩ : ∃ b, rchE p s c = b := ⟨_, rfl⟩
  obtain ⟨rO, hrO⟩ : ∃ b, rchO p s c = b := ⟨_, rfl⟩
  obtain ⟨lE, hlE⟩ : ∃ b, lwtE p s c = b := ⟨_, rfl⟩
  obtain ⟨⟨lt, lq1, lq2⟩, hlA⟩ : ∃ b, lwtA p s c = b := ⟨_, rfl⟩
  obtain ⟨sE, hsE⟩ : ∃ b, sclE c pc = b := ⟨_, rfl⟩
  obtain ⟨sO, hsO⟩ : ∃ b, sclO c pc = b := ⟨_, rfl⟩
  obtain ⟨so, hso⟩ : ∃ b, sclQ pc c = b := ⟨_, rfl⟩
  obtain ⟨rr, hrr⟩ : ∃ b, rchR p [s] c = b := ⟨_, rfl⟩
  obtain ⟨⟨tk, tv⟩, hlo⟩ : ∃ b, lowR p 0 (0, s.1) [s] c = b := ⟨_, rfl⟩
  have HM := zH hm
  unfold SPost at HRB
  unfold SclPost at HRS
  unfold RchPost at HRR
  rw [hm] at HFW HOE HCPY HRB HLW
  rw [hb1] at HCL HC22
  rw [hk] at HCK HRK HRS HSO HCE
  rw [hoe] at HOE HRR HLO HBAD HNON HSOM HM4 HCE
  rw [show (decide (0 ≤ pc) && decide (pc ≤ 200)) = wi from hwi] at HWI
  rw [hwi] at HRS HSO
  rw [hrE] at HRB HBAD HNON HSOM
  rw [hrO] at HRB HBAD HNON HSOM
  rw [hlE] at HLW HBAD HNON HSOM
  rw [hlA] at HLW HBAD HNON HSOM
  rw [hsE] at HSC HSO
  rw [hsO] at HSC HSO
  rw [hso] at HRS HSO HSL
  rw [hrr] at HRR HLO HNON HSOM HM4
  rw [hlo] at HLO HSOM
  rw [hn] at HCL HC22 HOE HCR HCK HRB HLW HSC HRK HRS HRR HLO HSL ⊢
  clear hn hb1 hk hoe hwi hrE hrO hlE hlA hsE hsO hso hrr hlo hr hrc hlc hcc
  obtain ⟨s1, sr⟩ := s
  unfold plC at HFW HOE HCPY HRB HLW HRR HLO ⊢
  dsimp only at HFW HOE HCPY HCK HRB HLW HSC HRK HRS HRR HLO HBAD HNON HSOM HM4 HSO HCE ⊢
  rw [hm] at HFW HOE HCPY HRB HLW HRR HLO ⊢
  clear hm
  go_enter Tryz.func11, Tryz.ntmps11
  go_wp2_with fail
  obtain ⟨W, hW⟩ : ∃ W, ((w.alloc (.cells #[.slice a m cap, .int .i64 p.pump, .int .i64 p.on, .int .i64 p.off] 44)).alloc (.cells #[.int .i64 s1, .bool sr] 46)).alloc (.cells #[.slice ac n cc, .int .i64 pc] 124) = W := ⟨_, rfl⟩
  rw [hW]
  have K3 : Hid (Blk W w.heap.size #[.slice a m cap, .int .i64 p.pump, .int .i64 p.on, .int .i64 p.off]) := by subst hW; exact zH (((Blk.new _ _ _).alloc _).alloc _)
  have K4 : Hid (Blk W (w.heap.size + 1) #[.int .i64 s1, .bool sr]) := by subst hW; exact zH ((Blk.newAt _ _ _ (by simp)).alloc _)
  have K5 : Hid (Blk W (w.heap.size + 1 + 1) #[.slice ac n cc, .int .i64 pc]) := by subst hW; exact zH (Blk.newAt _ _ _ (by simp))
  have HB : Hid (Below w.heap.size w W) := by subst hW; exact zH (bAlloc (bAlloc (bAlloc (bSelf w) _) _) _)
  clear hW
  refine (HAW.out _).mono ?_
  rintro e y1 ⟨rfl, hb⟩
  replace K3 := zH (K3.out.to hb)
  replace K4 := zH (K4.out.to hb)
  replace K5 := zH (K5.out.to hb)
  replace HB := zH (bThen HB.out hb)
  clear hb HAW
  obtain ⟨-, k3, -⟩ := K3.out
  go_wp2_with fail
  clear k3
  refine (HFW.out _).mono ?_
  rintro e y2 ⟨rfl, hb⟩
  replace K3 := zH (K3.out.to hb)
  replace K4 := zH (K4.out.to hb)
  replace K5 := zH (K5.out.to hb)
  replace HB := zH (bThen HB.out hb)
  clear hb HFW
  by_cases h10 : m ≤ 10
  case neg =>
    rw [decide_eq_false (show ¬ ((m : Int) ≤ 10) by omega)]
    go_wp2_with fail
    go_ret
    exact ⟨rfl, HB.out⟩
  rw [decide_eq_true (show ((m : Int) ≤ 10) by omega)]
  obtain ⟨-, k5, -⟩ := K5.out
  go_wp2_with fail
  clear k5
  refine (HCL.out _ HB.out).mono ?_
  rintro e y3 ⟨rfl, hb⟩
  replace K3 := zH (K3.out.to hb)
  replace K4 := zH (K4.out.to hb)
  replace K5 := zH (K5.out.to hb)
  replace HB := zH (bThen HB.out hb)
  clear hb HCL
  cases b1
  case false =>
    go_wp2_with fail
    go_ret
    exact ⟨rfl, HB.out⟩
  have h22 := HC22.out (by first | rfl | trivial)
  replace HCPY := zH (fun W => HCPY.out W h10)
  replace HOE := zH (fun W => HOE.out W h10)
  replace HCR := zH (fun W => HCR.out W h22)
  replace HRB := zH (fun W a1 c1 a2 c2 => HRB.out W a1 c1 a2 c2 h10)
  replace HLW := zH (fun W a1 c1 a2 c2 => HLW.out W a1 c1 a2 c2 h10)
  clear HC22
  obtain ⟨-, k5, -⟩ := K5.out
  go_wp2_with fail
  clear k5
  refine (HCR.out _ HB.out).mono ?_
  rintro e y4 ⟨a2, c2, rfl, -, hr2, hb, -⟩
  replace K3 := zH (K3.out.to hb)
  replace K4 := zH (K4.out.to hb)
  replace K5 := zH (K5.out.to hb)
  replace HB := zH (bThen HB.out hb)
  clear hb
  go_wp2_with fail
  refine (HCK.out _ _ _ hr2).mono ?_
  rintro e y5 ⟨rfl, hb⟩
  replace K3 := zH (K3.out.to hb)
  replace K4 := zH (K4.out.to hb)
  replace K5 := zH (K5.out.to hb)
  replace HB := zH (bThen HB.out hb)
  clear hb hr2 HCK
  go_wp2_with fail
  refine wp_region_tree (by kernel_rfl) (fun wd hwd => ?_)
  have T := zH hwd
  clear hwd
  refine WTq 0 ?_; apply Exists.intro; refine ⟨fun w1 hb1 => ?_, ?_⟩; (focus (((obtain ⟨-, k3, -⟩ := K3.out.to (T.out.trans hb1)); have hb1 := zH hb1; go_simp); (try (go_bits; try go_simp)); (try (rw [if_pos (by omega)]; try go_simp)); (first | done | (with_reducible rfl) | exact rfl)))
  simp only [Act.put, zzT, zzO, zzS]
  refine WTq 2 ?_; apply Exists.intro; refine ⟨fun w1 hb1 => ?_, ?_⟩; (focus (((obtain ⟨-, k4, -⟩ := K4.out.to (T.out.trans hb1)); have hb1 := zH hb1; go_simp); (try (go_bits; try go_simp)); (try (rw [if_pos (by omega)]; try go_simp)); (first | done | (with_reducible rfl) | exact rfl)))
  simp only [Act.put, zzT, zzO, zzS]
  refine WTq 3 ?_; apply Exists.intro; refine ⟨fun w1 hb1 => ?_, ?_⟩; (focus (((obtain ⟨-, k5, -⟩ := K5.out.to (T.out.trans hb1)); have hb1 := zH hb1; go_simp); (try (go_bits; try go_simp)); (try (rw [if_pos (by omega)]; try go_simp)); (first | done | (with_reducible rfl) | exact rfl)))
  simp only [Act.put, zzT, zzO, zzS]
  refine WTq 4 ?_; apply Exists.intro; refine ⟨fun w1 hb1 => ?_, ?_⟩; (focus (((obtain ⟨-, k5, -⟩ := K5.out.to (T.out.trans hb1)); have hb1 := zH hb1; go_simp); (try (go_bits; try go_simp)); (try (rw [if_pos (by omega)]; try go_simp)); (first | done | (with_reducible rfl) | exact rfl)))
  simp only [Act.put, zzT, zzO, zzS]
  refine WT_one 1 rfl (by kernel_rfl) ?_
  unfold stepT
  go_wp2_with fail
  refine (HCPY.out _ (bThen HB.out T.out)).mono ?_
  rintro e g1 ⟨a1, c1, rfl, -, hr1, hb, -⟩
  have HR1 := zH hr1
  clear hr1
  unfold plC
  rw [HM.out] at HR1 ⊢
  have hbd := zH (hb.mono T.out.size)
  replace T := zH (bThen T.out hb)
  clear hb
  go_wp2_with fail
  refine ⟨hbd.out, ?_⟩
  clear hbd
  refine WT_one 5 rfl (by kernel_rfl) ?_
  unfold stepT
  go_wp2_with fail
  refine (HCR.out _ (bThen HB.out T.out)).mono ?_
  rintro e g2 ⟨a2, c2, rfl, -, hr2, hb, -⟩
  have HR2 := zH hr2
  clear hr2
  replace HR1 := zH (HR1.out.to hb)
  have hbd := zH (hb.mono T.out.size)
  replace T := zH (bThen T.out hb)
  clear hb
  go_wp2_with fail
  refine ⟨hbd.out, ?_⟩
  clear hbd
  refine WT_one 6 rfl (by kernel_rfl) ?_
  unfold stepT
  go_wp2_with fail
  refine (HRB.out _ _ _ _ _ HR1.out HR2.out).mono ?_
  rintro e g3 ⟨aR, cR, rfl, hcR, hrR, hb, -⟩
  have HRO := zH hrR
  clear hrR HR1 HR2 hcR
  have hbd := zH (hb.mono T.out.size)
  replace T := zH (bThen T.out hb)
  clear hb
  go_wp2_with fail
  refine ⟨hbd.out, ?_⟩
  clear hbd
  refine WTq 7 ?_; apply Exists.intro; refine ⟨fun w1 hb1 => ?_, ?_⟩; (focus ((have hb1 := zH hb1; go_simp); (try (go_bits; try go_simp)); (try (rw [if_pos (by omega)]; try go_simp)); (first | done | (with_reducible rfl) | exact rfl)))
  simp only [Act.put, zzT, zzO, zzS]
  refine WTq 8 ?_; apply Exists.intro; refine ⟨fun w1 hb1 => ?_, ?_⟩; (focus ((have hb1 := zH hb1; go_simp); (try (go_bits; try go_simp)); (try (rw [if_pos (by omega)]; try go_simp)); (first | done | (with_reducible rfl) | exact rfl)))
  simp only [Act.put, zzT, zzO, zzS]
  refine WTq 9 ?_; apply Exists.intro; refine ⟨fun w1 hb1 => ?_, ?_⟩; (focus ((have hb1 := zH hb1; go_simp); (try (go_bits; try go_simp)); (try (rw [if_pos (by omega)]; try go_simp)); (first | done | (with_reducible rfl) | exact rfl)))
  simp only [Act.put, zzT, zzO, zzS]
  refine WTq 10 ?_; apply Exists.intro; refine ⟨fun w1 hb1 => ?_, ?_⟩; (focus ((have hb1 := zH hb1; go_simp); (try (go_bits; try go_simp)); (try (rw [if_pos (by omega)]; try go_simp)); (first | done | (with_reducible rfl) | exact rfl)))
  simp only [Act.put, zzT, zzO, zzS]
  refine WTq 11 ?_; apply Exists.intro; refine ⟨fun w1 hb1 => ?_, ?_⟩; (focus ((have hb1 := zH hb1; go_simp); (try (go_bits; try go_simp)); (try (rw [if_pos (by omega)]; try go_simp)); (first | done | (with_reducible rfl) | exact rfl)))
  simp only [Act.put, zzT, zzO, zzS]
  refine WT_done (by kernel_rfl) ?_
  replace HB := zH (bThen HB.out T.out)
  replace K3 := zH (K3.out.to T.out)
  replace K4 := zH (K4.out.to T.out)
  replace K5 := zH (K5.out.to T.out)
  clear T
  clear HRB
  obtain ⟨z1, hz1⟩ : ∃ z, z = g3 := ⟨_, rfl⟩
  subst hz1
  go_upto_region 7 with (fail)
  go_cut [11, 12, 13] from 54 to 64 (fun s11 s12 s13 wc => ∃ B, s11 = .int .i64 lt ∧ s12 = .pointer (some ⟨B, 0, none⟩) ∧ s13 = .int .i64 lE ∧ Hid (Blk wc B #[.int .i64 lq1, .int .i64 lq2]) ∧ Hid (Below z1.heap.size z1 wc))
  case first =>
    refine wp_region_tree (by kernel_rfl) (fun wd hwd => ?_)
    have T := zH hwd
    clear hwd
    refine WTq 0 ?_; apply Exists.intro; refine ⟨fun w1 hb1 => ?_, ?_⟩; (focus (((obtain ⟨-, k3, -⟩ := K3.out.to (T.out.trans hb1)); have hb1 := zH hb1; go_simp); (try (go_bits; try go_simp)); (try (rw [if_pos (by omega)]; try go_simp)); (first | done | (with_reducible rfl) | exact rfl)))
    simp only [Act.put, zzT, zzO, zzS]
    refine WTq 2 ?_; apply Exists.intro; refine ⟨fun w1 hb1 => ?_, ?_⟩; (focus (((obtain ⟨-, k4, -⟩ := K4.out.to (T.out.trans hb1)); have hb1 := zH hb1; go_simp); (try (go_bits; try go_simp)); (try (rw [if_pos (by omega)]; try go_simp)); (first | done | (with_reducible rfl) | exact rfl)))
    simp only [Act.put, zzT, zzO, zzS]
    refine WTq 3 ?_; apply Exists.intro; refine ⟨fun w1 hb1 => ?_, ?_⟩; (focus (((obtain ⟨-, k5, -⟩ := K5.out.to (T.out.trans hb1)); have hb1 := zH hb1; go_simp); (try (go_bits; try go_simp)); (try (rw [if_pos (by omega)]; try go_simp)); (first | done | (with_reducible rfl) | exact rfl)))
    simp only [Act.put, zzT, zzO, zzS]
    refine WTq 4 ?_; apply Exists.intro; refine ⟨fun w1 hb1 => ?_, ?_⟩; (focus (((obtain ⟨-, k5, -⟩ := K5.out.to (T.out.trans hb1)); have hb1 := zH hb1; go_simp); (try (go_bits; try go_simp)); (try (rw [if_pos (by omega)]; try go_simp)); (first | done | (with_reducible rfl) | exact rfl)))
    simp only [Act.put, zzT, zzO, zzS]
    refine WT_two 1 11 rfl rfl (by kernel_rfl) ?_ ?_
    · unfold stepT
      go_wp2_with fail
      refine (HCPY.out _ (bThen HB.out T.out)).mono ?_
      rintro e u1 ⟨a1, c1, rfl, -, hr1, hb, -⟩
      have HR1 := zH hr1
      clear hr1
      unfold plC
      rw [HM.out] at HR1 ⊢
      have hbd := zH (hb.mono T.out.size)
      replace T := zH (bThen T.out hb)
      clear hb
      go_wp2_with fail
      refine ⟨hbd.out, ?_⟩
      clear hbd
      refine WT_two 5 11 rfl rfl (by kernel_rfl) ?_ ?_
      · unfold stepT
        go_wp2_with fail
        refine (HCR.out _ (bThen HB.out T.out)).mono ?_
        rintro e u2 ⟨a2, c2, rfl, -, hr2, hb, -⟩
        replace HR1 := zH (HR1.out.to hb)
        have HR2 := zH hr2
        clear hr2
        have hbd := zH (hb.mono T.out.size)
        replace T := zH (bThen T.out hb)
        clear hb
        go_wp2_with fail
        refine ⟨hbd.out, ?_⟩
        clear hbd
        refine WT_two 6 11 rfl rfl (by kernel_rfl) ?_ ?_
        · unfold stepT
          go_wp2_with fail
          refine (HLW.out _ _ _ _ _ HR1.out HR2.out).mono ?_
          rintro e u3 ⟨rfl, hb⟩
          replace HR1 := zH (HR1.out.to hb)
          replace HR2 := zH (HR2.out.to hb)
          have hbd := zH (hb.mono T.out.size)
          replace T := zH (bThen T.out hb)
          clear hb
          go_wp2_with fail
          refine ⟨hbd.out, ?_⟩
          clear hbd
          refine WTq 7 ?_; apply Exists.intro; refine ⟨fun w1 hb1 => ?_, ?_⟩; (focus ((have hb1 := zH hb1; go_simp); (try (go_bits; try go_simp)); (try (rw [if_pos (by omega)]; try go_simp)); (first | done | (with_reducible rfl) | exact rfl)))
          simp only [Act.put, zzT, zzO, zzS]
          refine WTq 8 ?_; apply Exists.intro; refine ⟨fun w1 hb1 => ?_, ?_⟩; (focus ((have hb1 := zH hb1; go_simp); (try (go_bits; try go_simp)); (try (rw [if_pos (by omega)]; try go_simp)); (first | done | (with_reducible rfl) | exact rfl)))
          simp only [Act.put, zzT, zzO, zzS]
          refine WTq 9 ?_; apply Exists.intro; refine ⟨fun w1 hb1 => ?_, ?_⟩; (focus ((have hb1 := zH hb1; go_simp); (try (go_bits; try go_simp)); (try (rw [if_pos (by omega)]; try go_simp)); (first | done | (with_reducible rfl) | exact rfl)))
          simp only [Act.put, zzT, zzO, zzS]
          refine WTq 10 ?_; apply Exists.intro; refine ⟨fun w1 hb1 => ?_, ?_⟩; (focus ((have hb1 := zH hb1; go_simp); (try (go_bits; try go_simp)); (try (rw [if_pos (by omega)]; try go_simp)); (first | done | (with_reducible rfl) | exact rfl)))
          simp only [Act.put, zzT, zzO, zzS]
          refine WT_one 11 rfl (by kernel_rfl) ?_
          unfold stepT
          go_wp2_with fail
          obtain ⟨u4, hwA⟩ : ∃ wA, u3.alloc (.cells #[.int .i64 0, .int .i64 0] 28) = wA := ⟨_, rfl⟩
          rw [hwA]
          have hb : Below u3.heap.size u3 u4 := by subst hwA; exact bAlloc (bSelf _) _
          replace HR1 := zH (HR1.out.to hb)
          replace HR2 := zH (HR2.out.to hb)
          have KBN : Hid (Blk u4 u3.heap.size #[.int .i64 0, .int .i64 0]) := by subst hwA; exact Blk.new _ _ _
          clear hwA
          have BNN : Hid (z1.heap.size ≤ u3.heap.size) := zH T.out.size
          obtain ⟨BN, hBN⟩ : ∃ N, u3.heap.size = N := ⟨_, rfl⟩
          have hbd := zH (hb.mono T.out.size)
          replace T := zH (bThen T.out hb)
          clear hb
          rw [hBN] at KBN BNN  ⊢
          clear hBN
          refine ⟨hbd.out, ?_⟩
          clear hbd
          refine WTq 12 ?_; apply Exists.intro; refine ⟨fun w1 hb1 => ?_, ?_⟩; (focus ((have hb1 := zH hb1; go_simp); (try (go_bits; try go_simp)); (try (rw [if_pos (by omega)]; try go_simp)); (first | done | (with_reducible rfl) | exact rfl)))
          simp only [Act.put, zzT, zzO, zzS]
          refine WT_one 13 rfl (by kernel_rfl) ?_
          unfold stepT
          obtain ⟨-, kx, fx⟩ := KBN.out
          go_wp2_with fail
          clear kx fx
          obtain ⟨u5, hu⟩ : ∃ u, (u4.setCell ⟨BN, 0, none⟩ (.int .i64 lq1)).setCell ⟨BN, 1, none⟩ (.int .i64 lq2) = u := ⟨_, rfl⟩
          have hb : Below z1.heap.size u4 u5 := by rw [← hu]; exact ((Below.refl _ _).setCell (p := ⟨BN, 0, none⟩) BNN.out _).setCell (p := ⟨BN, 1, none⟩) BNN.out _
          replace KBN := zH ((KBN.out.set 0 (.int .i64 lq1)).set 1 (.int .i64 lq2))
          rw [hu] at KBN ⊢
          clear hu
          replace T := zH (T.out.trans hb)
          refine ⟨hb, ?_⟩
          clear hb
          refine WTq 14 ?_; apply Exists.intro; refine ⟨fun w1 hb1 => ?_, ?_⟩; (focus ((have hb1 := zH hb1; go_simp); (try (go_bits; try go_simp)); (try (rw [if_pos (by omega)]; try go_simp)); (first | done | (with_reducible rfl) | exact rfl)))
          simp only [Act.put, zzT, zzO, zzS]
          refine WT_done (by kernel_rfl) ?_
          go_wp2_with fail
          go_meet
          case rel => exact ⟨BN, rfl, rfl, rfl, KBN, T⟩
        · unfold stepT
          go_wp2_with fail
          obtain ⟨u3, hwA⟩ : ∃ wA, u2.alloc (.cells #[.int .i64 0, .int .i64 0] 28) = wA := ⟨_, rfl⟩
          rw [hwA]
          have hb : Below u2.heap.size u2 u3 := by subst hwA; exact bAlloc (bSelf _) _
          replace HR1 := zH (HR1.out.to hb)
          replace HR2 := zH (HR2.out.to hb)
          have KBN : Hid (Blk u3 u2.heap.size #[.int .i64 0, .int .i64 0]) := by subst hwA; exact Blk.new _ _ _
          clear hwA
          have BNN : Hid (z1.heap.size ≤ u2.heap.size) := zH T.out.size
          obtain ⟨BN, hBN⟩ : ∃ N, u2.heap.size = N := ⟨_, rfl⟩
          have hbd := zH (hb.mono T.out.size)
          replace T := zH (bThen T.out hb)
          clear hb
          rw [hBN] at KBN BNN  ⊢
          clear hBN
          refine ⟨hbd.out, ?_⟩
          clear hbd
          refine WT_one 6 rfl (by kernel_rfl) ?_
          unfold stepT
          go_wp2_with fail
          refine (HLW.out _ _ _ _ _ HR1.out HR2.out).mono ?_
          rintro e u4 ⟨rfl, hb⟩
          replace KBN := zH (KBN.out.to hb)
          replace HR1 := zH (HR1.out.to hb)
          replace HR2 := zH (HR2.out.to hb)
          have hbd := zH (hb.mono T.out.size)
          replace T := zH (bThen T.out hb)
          clear hb
          go_wp2_with fail
          refine ⟨hbd.out, ?_⟩
          clear hbd
          refine WTq 7 ?_; apply Exists.intro; refine ⟨fun w1 hb1 => ?_, ?_⟩; (focus ((have hb1 := zH hb1; go_simp); (try (go_bits; try go_simp)); (try (rw [if_pos (by omega)]; try go_simp)); (first | done | (with_reducible rfl) | exact rfl)))
          simp only [Act.put, zzT, zzO, zzS]
          refine WTq 8 ?_; apply Exists.intro; refine ⟨fun w1 hb1 => ?_, ?_⟩; (focus ((have hb1 := zH hb1; go_simp); (try (go_bits; try go_simp)); (try (rw [if_pos (by omega)]; try go_simp)); (first | done | (with_reducible rfl) | exact rfl)))
          simp only [Act.put, zzT, zzO, zzS]
          refine WTq 9 ?_; apply Exists.intro; refine ⟨fun w1 hb1 => ?_, ?_⟩; (focus ((have hb1 := zH hb1; go_simp); (try (go_bits; try go_simp)); (try (rw [if_pos (by omega)]; try go_simp)); (first | done | (with_reducible rfl) | exact rfl)))
          simp only [Act.put, zzT, zzO, zzS]
          refine WTq 10 ?_; apply Exists.intro; refine ⟨fun w1 hb1 => ?_, ?_⟩; (focus ((have hb1 := zH hb1; go_simp); (try (go_bits; try go_simp)); (try (rw [if_pos (by omega)]; try go_simp)); (first | done | (with_reducible rfl) | exact rfl)))
          simp only [Act.put, zzT, zzO, zzS]
          refine WTq 12 ?_; apply Exists.intro; refine ⟨fun w1 hb1 => ?_, ?_⟩; (focus ((have hb1 := zH hb1; go_simp); (try (go_bits; try go_simp)); (try (rw [if_pos (by omega)]; try go_simp)); (first | done | (with_reducible rfl) | exact rfl)))
          simp only [Act.put, zzT, zzO, zzS]
          refine WT_one 13 rfl (by kernel_rfl) ?_
          unfold stepT
          obtain ⟨-, kx, fx⟩ := KBN.out
          go_wp2_with fail
          clear kx fx
          obtain ⟨u5, hu⟩ : ∃ u, (u4.setCell ⟨BN, 0, none⟩ (.int .i64 lq1)).setCell ⟨BN, 1, none⟩ (.int .i64 lq2) = u := ⟨_, rfl⟩
          have hb : Below z1.heap.size u4 u5 := by rw [← hu]; exact ((Below.refl _ _).setCell (p := ⟨BN, 0, none⟩) BNN.out _).setCell (p := ⟨BN, 1, none⟩) BNN.out _
          replace KBN := zH ((KBN.out.set 0 (.int .i64 lq1)).set 1 (.int .i64 lq2))
          rw [hu] at KBN ⊢
          clear hu
          replace T := zH (T.out.trans hb)
          refine ⟨hb, ?_⟩
          clear hb
          refine WTq 14 ?_; apply Exists.intro; refine ⟨fun w1 hb1 => ?_, ?_⟩; (focus ((have hb1 := zH hb1; go_simp); (try (go_bits; try go_simp)); (try (rw [if_pos (by omega)]; try go_simp)); (first | done | (with_reducible rfl) | exact rfl)))
          simp only [Act.put, zzT, zzO, zzS]
          refine WT_done (by kernel_rfl) ?_
          go_wp2_with fail
          go_meet
          case rel => exact ⟨BN, rfl, rfl, rfl, KBN, T⟩
      · unfold stepT
        go_wp2_with fail
        obtain ⟨u2, hwA⟩ : ∃ wA, u1.alloc (.cells #[.int .i64 0, .int .i64 0] 28) = wA := ⟨_, rfl⟩
        rw [hwA]
        have hb : Below u1.heap.size u1 u2 := by subst hwA; exact bAlloc (bSelf _) _
        replace HR1 := zH (HR1.out.to hb)
        have KBN : Hid (Blk u2 u1.heap.size #[.int .i64 0, .int .i64 0]) := by subst hwA; exact Blk.new _ _ _
        clear hwA
        have BNN : Hid (z1.heap.size ≤ u1.heap.size) := zH T.out.size
        obtain ⟨BN, hBN⟩ : ∃ N, u1.heap.size = N := ⟨_, rfl⟩
        have hbd := zH (hb.mono T.out.size)
        replace T := zH (bThen T.out hb)
        clear hb
        rw [hBN] at KBN BNN  ⊢
        clear hBN
        refine ⟨hbd.out, ?_⟩
        clear hbd
        refine WT_one 5 rfl (by kernel_rfl) ?_
        unfold stepT
        go_wp2_with fail
        refine (HCR.out _ (bThen HB.out T.out)).mono ?_
        rintro e u3 ⟨a2, c2, rfl, -, hr2, hb, -⟩
        replace KBN := zH (KBN.out.to hb)
        replace HR1 := zH (HR1.out.to hb)
        have HR2 := zH hr2
        clear hr2
        have hbd := zH (hb.mono T.out.size)
        replace T := zH (bThen T.out hb)
        clear hb
        go_wp2_with fail
        refine ⟨hbd.out, ?_⟩
        clear hbd
        refine WT_one 6 rfl (by kernel_rfl) ?_
        unfold stepT
        go_wp2_with fail
        refine (HLW.out _ _ _ _ _ HR1.out HR2.out).mono ?_
        rintro e u4 ⟨rfl, hb⟩
        replace KBN := zH (KBN.out.to hb)
        replace HR1 := zH (HR1.out.to hb)
        replace HR2 := zH (HR2.out.to hb)
        have hbd := zH (hb.mono T.out.size)
        replace T := zH (bThen T.out hb)
        clear hb
        go_wp2_with fail
        refine ⟨hbd.out, ?_⟩
        clear hbd
        refine WTq 7 ?_; apply Exists.intro; refine ⟨fun w1 hb1 => ?_, ?_⟩; (focus ((have hb1 := zH hb1; go_simp); (try (go_bits; try go_simp)); (try (rw [if_pos (by omega)]; try go_simp)); (first | done | (with_reducible rfl) | exact rfl)))
        simp only [Act.put, zzT, zzO, zzS]
        refine WTq 8 ?_; apply Exists.intro; refine ⟨fun w1 hb1 => ?_, ?_⟩; (focus ((have hb1 := zH hb1; go_simp); (try (go_bits; try go_simp)); (try (rw [if_pos (by omega)]; try go_simp)); (first | done | (with_reducible rfl) | exact rfl)))
        simp only [Act.put, zzT, zzO, zzS]
        refine WTq 9 ?_; apply Exists.intro; refine ⟨fun w1 hb1 => ?_, ?_⟩; (focus ((have hb1 := zH hb1; go_simp); (try (go_bits; try go_simp)); (try (rw [if_pos (by omega)]; try go_simp)); (first | done | (with_reducible rfl) | exact rfl)))
        simp only [Act.put, zzT, zzO, zzS]
        refine WTq 10 ?_; apply Exists.intro; refine ⟨fun w1 hb1 => ?_, ?_⟩; (focus ((have hb1 := zH hb1; go_simp); (try (go_bits; try go_simp)); (try (rw [if_pos (by omega)]; try go_simp)); (first | done | (with_reducible rfl) | exact rfl)))
        simp only [Act.put, zzT, zzO, zzS]
        refine WTq 12 ?_; apply Exists.intro; refine ⟨fun w1 hb1 => ?_, ?_⟩; (focus ((have hb1 := zH hb1; go_simp); (try (go_bits; try go_simp)); (try (rw [if_pos (by omega)]; try go_simp)); (first | done | (with_reducible rfl) | exact rfl)))
        simp only [Act.put, zzT, zzO, zzS]
        refine WT_one 13 rfl (by kernel_rfl) ?_
        unfold stepT
        obtain ⟨-, kx, fx⟩ := KBN.out
        go_wp2_with fail
        clear kx fx
        obtain ⟨u5, hu⟩ : ∃ u, (u4.setCell ⟨BN, 0, none⟩ (.int .i64 lq1)).setCell ⟨BN, 1, none⟩ (.int .i64 lq2) = u := ⟨_, rfl⟩
        have hb : Below z1.heap.size u4 u5 := by rw [← hu]; exact ((Below.refl _ _).setCell (p := ⟨BN, 0, none⟩) BNN.out _).setCell (p := ⟨BN, 1, none⟩) BNN.out _
        replace KBN := zH ((KBN.out.set 0 (.int .i64 lq1)).set 1 (.int .i64 lq2))
        rw [hu] at KBN ⊢
        clear hu
        replace T := zH (T.out.trans hb)
        refine ⟨hb, ?_⟩
        clear hb
        refine WTq 14 ?_; apply Exists.intro; refine ⟨fun w1 hb1 => ?_, ?_⟩; (focus ((have hb1 := zH hb1; go_simp); (try (go_bits; try go_simp)); (try (rw [if_pos (by omega)]; try go_simp)); (first | done | (with_reducible rfl) | exact rfl)))
        simp only [Act.put, zzT, zzO, zzS]
        refine WT_done (by kernel_rfl) ?_
        go_wp2_with fail
        go_meet
        case rel => exact ⟨BN, rfl, rfl, rfl, KBN, T⟩
    · unfold stepT
      go_wp2_with fail
      obtain ⟨u1, hwA⟩ : ∃ wA, wd.alloc (.cells #[.int .i64 0, .int .i64 0] 28) = wA := ⟨_, rfl⟩
      rw [hwA]
      have hb : Below wd.heap.size wd u1 := by subst hwA; exact bAlloc (bSelf _) _
      have KBN : Hid (Blk u1 wd.heap.size #[.int .i64 0, .int .i64 0]) := by subst hwA; exact Blk.new _ _ _
      clear hwA
      have BNN : Hid (z1.heap.size ≤ wd.heap.size) := zH T.out.size
      obtain ⟨BN, hBN⟩ : ∃ N, wd.heap.size = N := ⟨_, rfl⟩
      have hbd := zH (hb.mono T.out.size)
      replace T := zH (bThen T.out hb)
      clear hb
      rw [hBN] at KBN BNN  ⊢
      clear hBN
      refine ⟨hbd.out, ?_⟩
      clear hbd
      refine WT_one 1 rfl (by kernel_rfl) ?_
      unfold stepT
      go_wp2_with fail
      refine (HCPY.out _ (bThen HB.out T.out)).mono ?_
      rintro e u2 ⟨a1, c1, rfl, -, hr1, hb, -⟩
      replace KBN := zH (KBN.out.to hb)
      have HR1 := zH hr1
      clear hr1
      unfold plC
      rw [HM.out] at HR1 ⊢
      have hbd := zH (hb.mono T.out.size)
      replace T := zH (bThen T.out hb)
      clear hb
      go_wp2_with fail
      refine ⟨hbd.out, ?_⟩
      clear hbd
      refine WT_one 5 rfl (by kernel_rfl) ?_
      unfold stepT
      go_wp2_with fail
      refine (HCR.out _ (bThen HB.out T.out)).mono ?_
      rintro e u3 ⟨a2, c2, rfl, -, hr2, hb, -⟩
      replace KBN := zH (KBN.out.to hb)
      replace HR1 := zH (HR1.out.to hb)
      have HR2 := zH hr2
      clear hr2
      have hbd := zH (hb.mono T.out.size)
      replace T := zH (bThen T.out hb)
      clear hb
      go_wp2_with fail
      refine ⟨hbd.out, ?_⟩
      clear hbd
      refine WT_one 6 rfl (by kernel_rfl) ?_
      unfold stepT
      go_wp2_with fail
      refine (HLW.out _ _ _ _ _ HR1.out HR2.out).mono ?_
      rintro e u4 ⟨rfl, hb⟩
      replace KBN := zH (KBN.out.to hb)
      replace HR1 := zH (HR1.out.to hb)
      replace HR2 := zH (HR2.out.to hb)
      have hbd := zH (hb.mono T.out.size)
      replace T := zH (bThen T.out hb)
      clear hb
      go_wp2_with fail
      refine ⟨hbd.out, ?_⟩
      clear hbd
      refine WTq 7 ?_; apply Exists.intro; refine ⟨fun w1 hb1 => ?_, ?_⟩; (focus ((have hb1 := zH hb1; go_simp); (try (go_bits; try go_simp)); (try (rw [if_pos (by omega)]; try go_simp)); (first | done | (with_reducible rfl) | exact rfl)))
      simp only [Act.put, zzT, zzO, zzS]
      refine WTq 8 ?_; apply Exists.intro; refine ⟨fun w1 hb1 => ?_, ?_⟩; (focus ((have hb1 := zH hb1; go_simp); (try (go_bits; try go_simp)); (try (rw [if_pos (by omega)]; try go_simp)); (first | done | (with_reducible rfl) | exact rfl)))
      simp only [Act.put, zzT, zzO, zzS]
      refine WTq 9 ?_; apply Exists.intro; refine ⟨fun w1 hb1 => ?_, ?_⟩; (focus ((have hb1 := zH hb1; go_simp); (try (go_bits; try go_simp)); (try (rw [if_pos (by omega)]; try go_simp)); (first | done | (with_reducible rfl) | exact rfl)))
      simp only [Act.put, zzT, zzO, zzS]
      refine WTq 10 ?_; apply Exists.intro; refine ⟨fun w1 hb1 => ?_, ?_⟩; (focus ((have hb1 := zH hb1; go_simp); (try (go_bits; try go_simp)); (try (rw [if_pos (by omega)]; try go_simp)); (first | done | (with_reducible rfl) | exact rfl)))
      simp only [Act.put, zzT, zzO, zzS]
      refine WTq 12 ?_; apply Exists.intro; refine ⟨fun w1 hb1 => ?_, ?_⟩; (focus ((have hb1 := zH hb1; go_simp); (try (go_bits; try go_simp)); (try (rw [if_pos (by omega)]; try go_simp)); (first | done | (with_reducible rfl) | exact rfl)))
      simp only [Act.put, zzT, zzO, zzS]
      refine WT_one 13 rfl (by kernel_rfl) ?_
      unfold stepT
      obtain ⟨-, kx, fx⟩ := KBN.out
      go_wp2_with fail
      clear kx fx
      obtain ⟨u5, hu⟩ : ∃ u, (u4.setCell ⟨BN, 0, none⟩ (.int .i64 lq1)).setCell ⟨BN, 1, none⟩ (.int .i64 lq2) = u := ⟨_, rfl⟩
      have hb : Below z1.heap.size u4 u5 := by rw [← hu]; exact ((Below.refl _ _).setCell (p := ⟨BN, 0, none⟩) BNN.out _).setCell (p := ⟨BN, 1, none⟩) BNN.out _
      replace KBN := zH ((KBN.out.set 0 (.int .i64 lq1)).set 1 (.int .i64 lq2))
      rw [hu] at KBN ⊢
      clear hu
      replace T := zH (T.out.trans hb)
      refine ⟨hb, ?_⟩
      clear hb
      refine WTq 14 ?_; apply Exists.intro; refine ⟨fun w1 hb1 => ?_, ?_⟩; (focus ((have hb1 := zH hb1; go_simp); (try (go_bits; try go_simp)); (try (rw [if_pos (by omega)]; try go_simp)); (first | done | (with_reducible rfl) | exact rfl)))
      simp only [Act.put, zzT, zzO, zzS]
      refine WT_done (by kernel_rfl) ?_
      go_wp2_with fail
      go_meet
      case rel => exact ⟨BN, rfl, rfl, rfl, KBN, T⟩
  obtain ⟨z2, hwo⟩ : ∃ wo, wo = wc := ⟨_, rfl⟩
  subst hwo
  obtain ⟨B12, rfl, rfl, rfl, K12, hb⟩ := hcut
  replace hb := hb.out
  replace K3 := zH (K3.out.to hb)
  replace K4 := zH (K4.out.to hb)
  replace K5 := zH (K5.out.to hb)
  replace HB := zH (bThen HB.out hb)
  replace HRO := zH (HRO.out.to hb)
  clear hb HLW HCPY
  go_wp2_with fail
  refine wp_region_tree (by kernel_rfl) (fun wd hwd => ?_)
  have T := zH hwd
  clear hwd
  refine WTq 0 ?_; apply Exists.intro; refine ⟨fun w1 hb1 => ?_, ?_⟩; (focus (((obtain ⟨-, k5, -⟩ := K5.out.to (T.out.trans hb1)); have hb1 := zH hb1; go_simp); (try (go_bits; try go_simp)); (try (rw [if_pos (by omega)]; try go_simp)); (first | done | (with_reducible rfl) | exact rfl)))
  simp only [Act.put, zzT, zzO, zzS]
  refine WTq 1 ?_; apply Exists.intro; refine ⟨fun w1 hb1 => ?_, ?_⟩; (focus (((obtain ⟨-, k5, -⟩ := K5.out.to (T.out.trans hb1)); have hb1 := zH hb1; go_simp); (try (go_bits; try go_simp)); (try (rw [if_pos (by omega)]; try go_simp)); (first | done | (with_reducible rfl) | exact rfl)))
  simp only [Act.put, zzT, zzO, zzS]
  refine WTq 3 ?_; apply Exists.intro; refine ⟨fun w1 hb1 => ?_, ?_⟩; (focus (((obtain ⟨-, k5, -⟩ := K5.out.to (T.out.trans hb1)); have hb1 := zH hb1; go_simp); (try (go_bits; try go_simp)); (try (rw [if_pos (by omega)]; try go_simp)); (first | done | (with_reducible rfl) | exact rfl)))
  simp only [Act.put, zzT, zzO, zzS]
  refine WTq 4 ?_; apply Exists.intro; refine ⟨fun w1 hb1 => ?_, ?_⟩; (focus (((obtain ⟨-, k5, -⟩ := K5.out.to (T.out.trans hb1)); have hb1 := zH hb1; go_simp); (try (go_bits; try go_simp)); (try (rw [if_pos (by omega)]; try go_simp)); (first | done | (with_reducible rfl) | exact rfl)))
  simp only [Act.put, zzT, zzO, zzS]
  refine WT_one 2 rfl (by kernel_rfl) ?_
  unfold stepT
  go_wp2_with fail
  refine (HCR.out _ (bThen HB.out T.out)).mono ?_
  rintro e g4 ⟨a2, c2, rfl, -, hr2, hb, -⟩
  have HR2 := zH hr2
  clear hr2
  have hbd := zH (hb.mono T.out.size)
  replace T := zH (bThen T.out hb)
  clear hb
  go_wp2_with fail
  refine ⟨hbd.out, ?_⟩
  clear hbd
  refine WT_one 5 rfl (by kernel_rfl) ?_
  unfold stepT
  go_wp2_with fail
  refine (HSC.out _ _ _ HR2.out).mono ?_
  rintro e g5 ⟨aS, cS, rfl, -, hrS, hb⟩
  have HRSO := zH hrS
  clear hrS HR2
  have hbd := zH (hb.mono T.out.size)
  replace T := zH (bThen T.out hb)
  clear hb
  go_wp2_with fail
  refine ⟨hbd.out, ?_⟩
  clear hbd
  refine WTq 6 ?_; apply Exists.intro; refine ⟨fun w1 hb1 => ?_, ?_⟩; (focus ((have hb1 := zH hb1; go_simp); (try (go_bits; try go_simp)); (try (rw [if_pos (by omega)]; try go_simp)); (first | done | (with_reducible rfl) | exact rfl)))
  simp only [Act.put, zzT, zzO, zzS]
  refine WTq 7 ?_; apply Exists.intro; refine ⟨fun w1 hb1 => ?_, ?_⟩; (focus ((have hb1 := zH hb1; go_simp); (try (go_bits; try go_simp)); (try (rw [if_pos (by omega)]; try go_simp)); (first | done | (with_reducible rfl) | exact rfl)))
  simp only [Act.put, zzT, zzO, zzS]
  refine WTq 8 ?_; apply Exists.intro; refine ⟨fun w1 hb1 => ?_, ?_⟩; (focus ((have hb1 := zH hb1; go_simp); (try (go_bits; try go_simp)); (try (rw [if_pos (by omega)]; try go_simp)); (first | done | (with_reducible rfl) | exact rfl)))
  simp only [Act.put, zzT, zzO, zzS]
  refine WTq 9 ?_; apply Exists.intro; refine ⟨fun w1 hb1 => ?_, ?_⟩; (focus ((have hb1 := zH hb1; go_simp); (try (go_bits; try go_simp)); (try (rw [if_pos (by omega)]; try go_simp)); (first | done | (with_reducible rfl) | exact rfl)))
  simp only [Act.put, zzT, zzO, zzS]
  refine WTq 10 ?_; apply Exists.intro; refine ⟨fun w1 hb1 => ?_, ?_⟩; (focus ((have hb1 := zH hb1; go_simp); (try (go_bits; try go_simp)); (try (rw [if_pos (by omega)]; try go_simp)); (first | done | (with_reducible rfl) | exact rfl)))
  simp only [Act.put, zzT, zzO, zzS]
  refine WT_done (by kernel_rfl) ?_
  replace HB := zH (bThen HB.out T.out)
  replace K3 := zH (K3.out.to T.out)
  replace K4 := zH (K4.out.to T.out)
  replace K5 := zH (K5.out.to T.out)
  replace HRO := zH (HRO.out.to T.out)
  replace K12 := zH (K12.out.to T.out)
  clear T
  clear HSC HCR
  obtain ⟨z3, hz3⟩ : ∃ z, z = g5 := ⟨_, rfl⟩
  subst hz3
  obtain ⟨nr, hnr⟩ : ∃ n, rO.length = n := ⟨_, rfl⟩
  obtain ⟨ns, hns⟩ : ∃ n, sO.length = n := ⟨_, rfl⟩
  have HNR := zH hnr
  have HNS := zH hns
  rw [hnr] at HRO ⊢
  rw [hns] at HRSO ⊢
  clear hnr hns
  obtain ⟨-, k5, -⟩ := K5.out
  go_wp2_with fail
  clear k5
  refine (HRK.out _ HB.out).mono ?_
  rintro e z4 ⟨rfl, hb⟩
  replace K3 := zH (K3.out.to hb)
  replace K4 := zH (K4.out.to hb)
  replace K5 := zH (K5.out.to hb)
  replace HB := zH (bThen HB.out hb)
  replace HRO := zH (HRO.out.to hb)
  replace K12 := zH (K12.out.to hb)
  replace HRSO := zH (HRSO.out.to hb)
  clear hb HRK
  by_cases hk0 : k2 = 0
  case neg =>
    obtain ⟨e1, e2⟩ := HSO.out.1 hk0
    have h0 := HCE.out hk0
    subst e2
    replace e1 := e1.symm
    subst e1
    obtain rfl : ns = 0 := HNS.out.symm
    have hk' : (k2 == 0) = false := by simpa using hk0
    have hk'' : (k2 != 0) = true := by simpa using hk0
    clear HSO HCE HRS HWI HRG HSL
    obtain ⟨-, k3, -⟩ := K3.out
    obtain ⟨-, k4, -⟩ := K4.out
    obtain ⟨-, k5, -⟩ := K5.out
    go_wp2_with fail
    clear k3 k4 k5
    refine (HOE.out _ HB.out).mono ?_
    rintro e t1 ⟨rfl, hb⟩
    replace K3 := zH (K3.out.to hb)
    replace K4 := zH (K4.out.to hb)
    replace K5 := zH (K5.out.to hb)
    replace HB := zH (bThen HB.out hb)
    replace HRO := zH (HRO.out.to hb)
    replace K12 := zH (K12.out.to hb)
    clear hb HOE

    obtain ⟨e1, e2, e3, e4⟩ := HBAD.out h0
    rw [Prod.mk.injEq, Prod.mk.injEq] at e4
    obtain ⟨e4, e5, e6⟩ := e4
    subst e2 e4 e5 e6
    replace e1 := e1.symm
    replace e3 := e3.symm
    subst e1 e3
    obtain rfl : nr = 0 := HNR.out.symm
    have h0' : (oe != 0) = true := by simpa using h0
    obtain ⟨-, k12, -⟩ := K12.out
    go_wp2_with fail
    go_ret
    exact ⟨rfl, HB.out⟩
  subst hk0
  clear HCE
  obtain ⟨-, k5, -⟩ := K5.out
  go_wp2_with fail
  clear k5
  refine (HWI.out _).mono ?_
  rintro e w' ⟨rfl, rfl⟩
  clear HWI
  cases wi
  case false =>
    obtain ⟨rfl, e2⟩ := HSO.out.2.1 (by first | rfl | trivial) (by first | rfl | trivial)
    subst e2
    obtain rfl : ns = 0 := HNS.out.symm
    clear HSO HRS HRG HSL
    obtain ⟨-, k3, -⟩ := K3.out
    obtain ⟨-, k4, -⟩ := K4.out
    obtain ⟨-, k5, -⟩ := K5.out
    go_wp2_with fail
    clear k3 k4 k5
    refine (HOE.out _ HB.out).mono ?_
    rintro e t1 ⟨rfl, hb⟩
    replace K3 := zH (K3.out.to hb)
    replace K4 := zH (K4.out.to hb)
    replace K5 := zH (K5.out.to hb)
    replace HB := zH (bThen HB.out hb)
    replace HRO := zH (HRO.out.to hb)
    replace K12 := zH (K12.out.to hb)
    clear hb HOE
    by_cases h0 : oe = 0
    case neg =>
      obtain ⟨e1, e2, e3, e4⟩ := HBAD.out h0
      rw [Prod.mk.injEq, Prod.mk.injEq] at e4
      obtain ⟨e4, e5, e6⟩ := e4
      subst e2 e4 e5 e6
      replace e1 := e1.symm
      replace e3 := e3.symm
      subst e1 e3
      obtain rfl : nr = 0 := HNR.out.symm
      have h0' : (oe != 0) = true := by simpa using h0
      obtain ⟨-, k12, -⟩ := K12.out
      go_wp2_with fail
      go_ret
      exact ⟨rfl, HB.out⟩
    subst h0
    replace HRR := zH (fun W hb => HRR.out W (by first | rfl | trivial) hb)
    replace HLO := zH (fun W hno hb => HLO.out W (by first | rfl | trivial) hno hb)
    replace HNON := zH (fun hr => HNON.out (by first | rfl | trivial) hr)
    replace HSOM := zH (fun M hr => HSOM.out M (by first | rfl | trivial) hr)
    replace HM4 := zH (fun M hr => HM4.out M (by first | rfl | trivial) hr)
    clear HBAD
    obtain ⟨-, k3, -⟩ := K3.out
    obtain ⟨-, k4, -⟩ := K4.out
    obtain ⟨-, k5, -⟩ := K5.out
    go_wp2_with fail
    clear k3 k4 k5
    refine (HRR.out _ HB.out).mono ?_
    rintro e t2 ⟨aM, cM, rfl, -, hrM, hb⟩
    replace K3 := zH (K3.out.to hb)
    replace K4 := zH (K4.out.to hb)
    replace K5 := zH (K5.out.to hb)
    replace HB := zH (bThen HB.out hb)
    replace HRO := zH (HRO.out.to hb)
    replace K12 := zH (K12.out.to hb)
    have HRM := zH hrM
    clear hb hrM HRR
    cases rr with
    | none =>
      obtain ⟨rfl, e2, rfl, e4⟩ := HNON.out rfl
      rw [Prod.mk.injEq, Prod.mk.injEq] at e4
      obtain ⟨rfl, rfl, rfl⟩ := e4
      subst e2
      obtain rfl : nr = 0 := HNR.out.symm
      dsimp only [Option.getD_none, Option.isSome_none]
      obtain ⟨-, k12, -⟩ := K12.out
      go_wp2_with fail
      go_ret
      exact ⟨rfl, HB.out⟩
    | some M =>
      obtain ⟨rfl, e2, rfl, e4, hsm⟩ := HSOM.out M rfl
      rw [Prod.mk.injEq] at e4
      obtain ⟨rfl, e5⟩ := e4
      have hm4 := HM4.out M rfl
      subst e2
      dsimp only [Option.getD_some, Option.isSome_some] at HRM ⊢
      rw [HNR.out] at HRM hm4 ⊢
      have HLO2 := zH (fun W hb => HLO.out W (by simp) hb)
      rw [← e5] at HLO2 hsm
      have HSM := zH hsm
      try dsimp only at HLO2
      clear HLO HNON HSOM HM4 hsm e5
      obtain ⟨-, k3, -⟩ := K3.out
      obtain ⟨-, k4, -⟩ := K4.out
      obtain ⟨-, k5, -⟩ := K5.out
      go_wp2_with fail
      clear k3 k4 k5
      refine (HLO2.out _ HB.out).mono ?_
      rintro e t3 ⟨q1, q2, vv, rfl, hrq, hb⟩
      replace K12 := zH (K12.out.to hb)
      replace HRO := zH (HRO.out.to hb)
      replace HRM := zH (HRM.out.to hb)
      replace HB := zH (bThen HB.out hb)
      have HRQ := zH hrq
      obtain ⟨t5, n5, c5, t6, n6, c6, rfl, -, -⟩ := hrq.ex
      clear hb hrq HLO2 K3 K4 K5
      go_wp2_with fail
      obtain ⟨t4, ht4⟩ : ∃ u, t3.alloc (.cells #[.int .i64 t5, .slice q1 n5 c5, .int .i64 t6, .slice q2 n6 c6] 112) = u := ⟨_, rfl⟩
      rw [ht4]
      have hb : Below t3.heap.size t3 t4 := by subst ht4; exact bAlloc (bSelf _) _
      replace K12 := zH (K12.out.to hb)
      replace HRO := zH (HRO.out.to hb)
      replace HRM := zH (HRM.out.to hb)
      replace HB := zH (bThen HB.out hb)
      replace HRQ := zH (HRQ.out.to hb)
      clear hb ht4
      refine (RatioFrac_any (lq1, lq2) q1 q2 _ t4 HSM.out HRQ.out).mono ?_
      rintro e t7 ⟨rfl, hb⟩
      replace K12 := zH (K12.out.to hb)
      replace HRO := zH (HRO.out.to hb)
      replace HRM := zH (HRM.out.to hb)
      replace HB := zH (bThen HB.out hb)
      clear hb HRQ
      dsimp only
      have HSS := zH (fun W h1 h2 => SameStates_any rO rO aR aM cR cM W (by have := HNR.out; unfold maxLen; omega) h1 h2)
      rw [decide_eq_true (show rO = rO from rfl), HNR.out] at HSS
      go_wp2_with fail
      obtain ⟨t8, ht8⟩ : ∃ u, t7.alloc (.cells #[.int .i64 lq1, .int .i64 lq2] 28) = u := ⟨_, rfl⟩
      rw [ht8]
      have hb : Below t7.heap.size t7 t8 := by subst ht8; exact bAlloc (bSelf _) _
      have K24 : Hid (Blk t8 t7.heap.size #[.int .i64 lq1, .int .i64 lq2]) := by subst ht8; exact zH (Blk.new _ _ _)
      replace K12 := zH (K12.out.to hb)
      replace HRO := zH (HRO.out.to hb)
      replace HRM := zH (HRM.out.to hb)
      replace HB := zH (bThen HB.out hb)
      clear hb ht8
      refine (HSS.out _ HRO.out HRM.out).mono ?_
      rintro e t9 ⟨rfl, hb⟩
      replace K12 := zH (K12.out.to hb)
      replace K24 := zH (K24.out.to hb)
      replace HB := zH (bThen HB.out hb)
      clear hb HSS HRO HRM
      obtain ⟨-, k12, -⟩ := K12.out
      obtain ⟨-, k24, -⟩ := K24.out
      go_wp2_with fail
      go_ret
      exact ⟨ret_bool (by simp), HB.out⟩
  obtain ⟨e1, e2⟩ := HSO.out.2.2 (by first | rfl | trivial) (by first | rfl | trivial)
  replace HRS := zH (fun W hb => HRS.out W (by first | rfl | trivial) (by first | rfl | trivial) hb)
  have HE1 := zH e1
  have HE2 := zH e2
  clear HSO e1 e2
  obtain ⟨-, k5, -⟩ := K5.out
  go_wp2_with fail
  clear k5
  refine (HRS.out _ HB.out).mono ?_
  rintro e z5 ⟨aQ, cQ, rfl, -, hrQ, hb⟩
  replace K3 := zH (K3.out.to hb)
  replace K4 := zH (K4.out.to hb)
  replace K5 := zH (K5.out.to hb)
  replace HB := zH (bThen HB.out hb)
  replace HRO := zH (HRO.out.to hb)
  replace K12 := zH (K12.out.to hb)
  replace HRSO := zH (HRSO.out.to hb)
  have HRQ := zH hrQ
  clear hb hrQ HRS
  cases so with
  | none =>
    obtain rfl := HE1.out
    have e2 := HE2.out
    dsimp only [Option.getD_none] at e2 HRQ ⊢
    subst e2
    obtain rfl : ns = 0 := HNS.out.symm
    have HR1 := zH (fun W h1 h2 => HRG.out [] W aS aQ cS cQ (Nat.zero_le _) h1 h2)
    dsimp only [List.length_nil, Option.isSome_none] at HR1 HRQ ⊢
    have hu8 : unl false 8 = 8 := rfl
    go_wp2_with fail
    refine (HR1.out _ HRSO.out HRQ.out).mono ?_
    rintro e z6 ⟨rfl, hb⟩
    replace K3 := zH (K3.out.to hb)
    replace K4 := zH (K4.out.to hb)
    replace K5 := zH (K5.out.to hb)
    replace HB := zH (bThen HB.out hb)
    replace HRO := zH (HRO.out.to hb)
    replace K12 := zH (K12.out.to hb)
    clear hb HR1 HRSO HRQ HRG HSL HE1 HE2
    obtain ⟨-, k3, -⟩ := K3.out
    obtain ⟨-, k4, -⟩ := K4.out
    obtain ⟨-, k5, -⟩ := K5.out
    go_wp2_with fail
    clear k3 k4 k5
    refine (HOE.out _ HB.out).mono ?_
    rintro e t1 ⟨rfl, hb⟩
    replace K3 := zH (K3.out.to hb)
    replace K4 := zH (K4.out.to hb)
    replace K5 := zH (K5.out.to hb)
    replace HB := zH (bThen HB.out hb)
    replace HRO := zH (HRO.out.to hb)
    replace K12 := zH (K12.out.to hb)
    clear hb HOE
    by_cases h0 : oe = 0
    case neg =>
      obtain ⟨e1, e2, e3, e4⟩ := HBAD.out h0
      rw [Prod.mk.injEq, Prod.mk.injEq] at e4
      obtain ⟨e4, e5, e6⟩ := e4
      subst e2 e4 e5 e6
      replace e1 := e1.symm
      replace e3 := e3.symm
      subst e1 e3
      obtain rfl : nr = 0 := HNR.out.symm
      have h0' : (oe != 0) = true := by simpa using h0
      obtain ⟨-, k12, -⟩ := K12.out
      go_wp2_with fail
      go_ret
      exact ⟨rfl, HB.out⟩
    subst h0
    replace HRR := zH (fun W hb => HRR.out W (by first | rfl | trivial) hb)
    replace HLO := zH (fun W hno hb => HLO.out W (by first | rfl | trivial) hno hb)
    replace HNON := zH (fun hr => HNON.out (by first | rfl | trivial) hr)
    replace HSOM := zH (fun M hr => HSOM.out M (by first | rfl | trivial) hr)
    replace HM4 := zH (fun M hr => HM4.out M (by first | rfl | trivial) hr)
    clear HBAD
    obtain ⟨-, k3, -⟩ := K3.out
    obtain ⟨-, k4, -⟩ := K4.out
    obtain ⟨-, k5, -⟩ := K5.out
    go_wp2_with fail
    clear k3 k4 k5
    refine (HRR.out _ HB.out).mono ?_
    rintro e t2 ⟨aM, cM, rfl, -, hrM, hb⟩
    replace K3 := zH (K3.out.to hb)
    replace K4 := zH (K4.out.to hb)
    replace K5 := zH (K5.out.to hb)
    replace HB := zH (bThen HB.out hb)
    replace HRO := zH (HRO.out.to hb)
    replace K12 := zH (K12.out.to hb)
    have HRM := zH hrM
    clear hb hrM HRR
    cases rr with
    | none =>
      obtain ⟨rfl, e2, rfl, e4⟩ := HNON.out rfl
      rw [Prod.mk.injEq, Prod.mk.injEq] at e4
      obtain ⟨rfl, rfl, rfl⟩ := e4
      subst e2
      obtain rfl : nr = 0 := HNR.out.symm
      dsimp only [Option.getD_none, Option.isSome_none]
      obtain ⟨-, k12, -⟩ := K12.out
      go_wp2_with fail
      go_ret
      exact ⟨rfl, HB.out⟩
    | some M =>
      obtain ⟨rfl, e2, rfl, e4, hsm⟩ := HSOM.out M rfl
      rw [Prod.mk.injEq] at e4
      obtain ⟨rfl, e5⟩ := e4
      have hm4 := HM4.out M rfl
      subst e2
      dsimp only [Option.getD_some, Option.isSome_some] at HRM ⊢
      rw [HNR.out] at HRM hm4 ⊢
      have HLO2 := zH (fun W hb => HLO.out W (by simp) hb)
      rw [← e5] at HLO2 hsm
      have HSM := zH hsm
      try dsimp only at HLO2
      clear HLO HNON HSOM HM4 hsm e5
      obtain ⟨-, k3, -⟩ := K3.out
      obtain ⟨-, k4, -⟩ := K4.out
      obtain ⟨-, k5, -⟩ := K5.out
      go_wp2_with fail
      clear k3 k4 k5
      refine (HLO2.out _ HB.out).mono ?_
      rintro e t3 ⟨q1, q2, vv, rfl, hrq, hb⟩
      replace K12 := zH (K12.out.to hb)
      replace HRO := zH (HRO.out.to hb)
      replace HRM := zH (HRM.out.to hb)
      replace HB := zH (bThen HB.out hb)
      have HRQ := zH hrq
      obtain ⟨t5, n5, c5, t6, n6, c6, rfl, -, -⟩ := hrq.ex
      clear hb hrq HLO2 K3 K4 K5
      go_wp2_with fail
      obtain ⟨t4, ht4⟩ : ∃ u, t3.alloc (.cells #[.int .i64 t5, .slice q1 n5 c5, .int .i64 t6, .slice q2 n6 c6] 112) = u := ⟨_, rfl⟩
      rw [ht4]
      have hb : Below t3.heap.size t3 t4 := by subst ht4; exact bAlloc (bSelf _) _
      replace K12 := zH (K12.out.to hb)
      replace HRO := zH (HRO.out.to hb)
      replace HRM := zH (HRM.out.to hb)
      replace HB := zH (bThen HB.out hb)
      replace HRQ := zH (HRQ.out.to hb)
      clear hb ht4
      refine (RatioFrac_any (lq1, lq2) q1 q2 _ t4 HSM.out HRQ.out).mono ?_
      rintro e t7 ⟨rfl, hb⟩
      replace K12 := zH (K12.out.to hb)
      replace HRO := zH (HRO.out.to hb)
      replace HRM := zH (HRM.out.to hb)
      replace HB := zH (bThen HB.out hb)
      clear hb HRQ
      dsimp only
      have HSS := zH (fun W h1 h2 => SameStates_any rO rO aR aM cR cM W (by have := HNR.out; unfold maxLen; omega) h1 h2)
      rw [decide_eq_true (show rO = rO from rfl), HNR.out] at HSS
      go_wp2_with fail
      obtain ⟨t8, ht8⟩ : ∃ u, t7.alloc (.cells #[.int .i64 lq1, .int .i64 lq2] 28) = u := ⟨_, rfl⟩
      rw [ht8]
      have hb : Below t7.heap.size t7 t8 := by subst ht8; exact bAlloc (bSelf _) _
      have K24 : Hid (Blk t8 t7.heap.size #[.int .i64 lq1, .int .i64 lq2]) := by subst ht8; exact zH (Blk.new _ _ _)
      replace K12 := zH (K12.out.to hb)
      replace HRO := zH (HRO.out.to hb)
      replace HRM := zH (HRM.out.to hb)
      replace HB := zH (bThen HB.out hb)
      clear hb ht8
      refine (HSS.out _ HRO.out HRM.out).mono ?_
      rintro e t9 ⟨rfl, hb⟩
      replace K12 := zH (K12.out.to hb)
      replace K24 := zH (K24.out.to hb)
      replace HB := zH (bThen HB.out hb)
      clear hb HSS HRO HRM
      obtain ⟨-, k12, -⟩ := K12.out
      obtain ⟨-, k24, -⟩ := K24.out
      go_wp2_with fail
      go_ret
      exact ⟨ret_bool (by simp), HB.out⟩
  | some mm =>
    obtain rfl := HE1.out
    have e2 := HE2.out
    have hml := HSL.out mm rfl
    dsimp only [Option.getD_some] at e2 HRQ ⊢
    subst e2
    have HR1 := zH (fun W h1 h2 => HRG.out sO W aS aQ cS cQ (by unfold maxLen; omega) h1 h2)
    rw [HNS.out] at HR1 HRQ ⊢
    dsimp only [Option.isSome_some]
    have hu8 : unl true 8 = 0 := rfl
    go_wp2_with fail
    refine (HR1.out _ HRSO.out HRQ.out).mono ?_
    rintro e z6 ⟨rfl, hb⟩
    replace K3 := zH (K3.out.to hb)
    replace K4 := zH (K4.out.to hb)
    replace K5 := zH (K5.out.to hb)
    replace HB := zH (bThen HB.out hb)
    replace HRO := zH (HRO.out.to hb)
    replace K12 := zH (K12.out.to hb)
    clear hb HR1 HRSO HRQ HRG HSL HE1 HE2
    obtain ⟨-, k3, -⟩ := K3.out
    obtain ⟨-, k4, -⟩ := K4.out
    obtain ⟨-, k5, -⟩ := K5.out
    go_wp2_with fail
    clear k3 k4 k5
    refine (HOE.out _ HB.out).mono ?_
    rintro e t1 ⟨rfl, hb⟩
    replace K3 := zH (K3.out.to hb)
    replace K4 := zH (K4.out.to hb)
    replace K5 := zH (K5.out.to hb)
    replace HB := zH (bThen HB.out hb)
    replace HRO := zH (HRO.out.to hb)
    replace K12 := zH (K12.out.to hb)
    clear hb HOE
    by_cases h0 : oe = 0
    case neg =>
      obtain ⟨e1, e2, e3, e4⟩ := HBAD.out h0
      rw [Prod.mk.injEq, Prod.mk.injEq] at e4
      obtain ⟨e4, e5, e6⟩ := e4
      subst e2 e4 e5 e6
      replace e1 := e1.symm
      replace e3 := e3.symm
      subst e1 e3
      obtain rfl : nr = 0 := HNR.out.symm
      have h0' : (oe != 0) = true := by simpa using h0
      obtain ⟨-, k12, -⟩ := K12.out
      go_wp2_with fail
      go_ret
      exact ⟨rfl, HB.out⟩
    subst h0
    replace HRR := zH (fun W hb => HRR.out W (by first | rfl | trivial) hb)
    replace HLO := zH (fun W hno hb => HLO.out W (by first | rfl | trivial) hno hb)
    replace HNON := zH (fun hr => HNON.out (by first | rfl | trivial) hr)
    replace HSOM := zH (fun M hr => HSOM.out M (by first | rfl | trivial) hr)
    replace HM4 := zH (fun M hr => HM4.out M (by first | rfl | trivial) hr)
    clear HBAD
    obtain ⟨-, k3, -⟩ := K3.out
    obtain ⟨-, k4, -⟩ := K4.out
    obtain ⟨-, k5, -⟩ := K5.out
    go_wp2_with fail
    clear k3 k4 k5
    refine (HRR.out _ HB.out).mono ?_
    rintro e t2 ⟨aM, cM, rfl, -, hrM, hb⟩
    replace K3 := zH (K3.out.to hb)
    replace K4 := zH (K4.out.to hb)
    replace K5 := zH (K5.out.to hb)
    replace HB := zH (bThen HB.out hb)
    replace HRO := zH (HRO.out.to hb)
    replace K12 := zH (K12.out.to hb)
    have HRM := zH hrM
    clear hb hrM HRR
    cases rr with
    | none =>
      obtain ⟨rfl, e2, rfl, e4⟩ := HNON.out rfl
      rw [Prod.mk.injEq, Prod.mk.injEq] at e4
      obtain ⟨rfl, rfl, rfl⟩ := e4
      subst e2
      obtain rfl : nr = 0 := HNR.out.symm
      dsimp only [Option.getD_none, Option.isSome_none]
      obtain ⟨-, k12, -⟩ := K12.out
      go_wp2_with fail
      go_ret
      exact ⟨rfl, HB.out⟩
    | some M =>
      obtain ⟨rfl, e2, rfl, e4, hsm⟩ := HSOM.out M rfl
      rw [Prod.mk.injEq] at e4
      obtain ⟨rfl, e5⟩ := e4
      have hm4 := HM4.out M rfl
      subst e2
      dsimp only [Option.getD_some, Option.isSome_some] at HRM ⊢
      rw [HNR.out] at HRM hm4 ⊢
      have HLO2 := zH (fun W hb => HLO.out W (by simp) hb)
      rw [← e5] at HLO2 hsm
      have HSM := zH hsm
      try dsimp only at HLO2
      clear HLO HNON HSOM HM4 hsm e5
      obtain ⟨-, k3, -⟩ := K3.out
      obtain ⟨-, k4, -⟩ := K4.out
      obtain ⟨-, k5, -⟩ := K5.out
      go_wp2_with fail
      clear k3 k4 k5
      refine (HLO2.out _ HB.out).mono ?_
      rintro e t3 ⟨q1, q2, vv, rfl, hrq, hb⟩
      replace K12 := zH (K12.out.to hb)
      replace HRO := zH (HRO.out.to hb)
      replace HRM := zH (HRM.out.to hb)
      replace HB := zH (bThen HB.out hb)
      have HRQ := zH hrq
      obtain ⟨t5, n5, c5, t6, n6, c6, rfl, -, -⟩ := hrq.ex
      clear hb hrq HLO2 K3 K4 K5
      go_wp2_with fail
      obtain ⟨t4, ht4⟩ : ∃ u, t3.alloc (.cells #[.int .i64 t5, .slice q1 n5 c5, .int .i64 t6, .slice q2 n6 c6] 112) = u := ⟨_, rfl⟩
      rw [ht4]
      have hb : Below t3.heap.size t3 t4 := by subst ht4; exact bAlloc (bSelf _) _
      replace K12 := zH (K12.out.to hb)
      replace HRO := zH (HRO.out.to hb)
      replace HRM := zH (HRM.out.to hb)
      replace HB := zH (bThen HB.out hb)
      replace HRQ := zH (HRQ.out.to hb)
      clear hb ht4
      refine (RatioFrac_any (lq1, lq2) q1 q2 _ t4 HSM.out HRQ.out).mono ?_
      rintro e t7 ⟨rfl, hb⟩
      replace K12 := zH (K12.out.to hb)
      replace HRO := zH (HRO.out.to hb)
      replace HRM := zH (HRM.out.to hb)
      replace HB := zH (bThen HB.out hb)
      clear hb HRQ
      dsimp only
      have HSS := zH (fun W h1 h2 => SameStates_any rO rO aR aM cR cM W (by have := HNR.out; unfold maxLen; omega) h1 h2)
      rw [decide_eq_true (show rO = rO from rfl), HNR.out] at HSS
      go_wp2_with fail
      obtain ⟨t8, ht8⟩ : ∃ u, t7.alloc (.cells #[.int .i64 lq1, .int .i64 lq2] 28) = u := ⟨_, rfl⟩
      rw [ht8]
      have hb : Below t7.heap.size t7 t8 := by subst ht8; exact bAlloc (bSelf _) _
      have K24 : Hid (Blk t8 t7.heap.size #[.int .i64 lq1, .int .i64 lq2]) := by subst ht8; exact zH (Blk.new _ _ _)
      replace K12 := zH (K12.out.to hb)
      replace HRO := zH (HRO.out.to hb)
      replace HRM := zH (HRM.out.to hb)
      replace HB := zH (bThen HB.out hb)
      clear hb ht8
      refine (HSS.out _ HRO.out HRM.out).mono ?_
      rintro e t9 ⟨rfl, hb⟩
      replace K12 := zH (K12.out.to hb)
      replace K24 := zH (K24.out.to hb)
      replace HB := zH (bThen HB.out hb)
      clear hb HSS HRO HRM
      obtain ⟨-, k12, -⟩ := K12.out
      obtain ⟨-, k24, -⟩ := K24.out
      go_wp2_with fail
      go_ret
      exact ⟨ret_bool (by simp), HB.out⟩
end
end Go.Proofs.YtjfedpblkejmkaaGreat
