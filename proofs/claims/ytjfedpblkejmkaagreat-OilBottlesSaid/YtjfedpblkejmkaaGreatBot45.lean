/-
  Texts of this claim, in their build order: OM28.
-/
import Derived.Test.YtjfedpblkejmkaaGreatBot32
import Derived.Test.YtjfedpblkejmkaaGreatBot44
import Derived.Test.YtjfedpblkejmkaaGreatBot6
import Derived.Test.YtjfedpblkejmkaaGreatBot0

namespace Go.Proofs.YtjfedpblkejmkaaGreat
section
set_option maxRecDepth 100000
set_option maxHeartbeats 6400000
open Go.RowKit
attribute [local go_sem] Oper.semAt_some

theorem fg_mem {l : List (Int × Int)} {k : Nat} (h : k < l.length) : fg l k = l[k] := by
  unfold fg
  rw [List.getD_eq_getElem?_getD, List.getElem?_eq_getElem h]; rfl
theorem sclQ_no {pc : Int} : ∀ {c : List (Int × Int)} {k : Nat}, k < c.length → 50 < (scR pc (fg c k)).2 → sclQ pc c = none
  | [], k, h, _ => by simp at h
  | r :: c, 0, _, h2 => by unfold sclQ; rw [if_pos (show 50 < (scR pc r).2 from h2)]
  | r :: c, k + 1, h1, h2 => by
    unfold sclQ
    split
    · rfl
    · rw [sclQ_no (c := c) (k := k) (by simpa using h1) h2]; rfl
theorem sclQ_all {pc : Int} : ∀ {c : List (Int × Int)}, (∀ k, k < c.length → (scR pc (fg c k)).2 ≤ 50) → sclQ pc c = some (c.map (scR pc))
  | [], _ => rfl
  | r :: c, h => by
    unfold sclQ
    rw [if_neg (by have := h 0 (by simp); show ¬ 50 < (scR pc r).2; have e : fg (r :: c) 0 = r := rfl; rw [e] at this; omega), sclQ_all (c := c) (fun k hk => h (k + 1) (by simpa using hk))]
    rfl
/-- What has been scaled so far. -/
def sclT (pc : Int) (c : List (Int × Int)) (k : Nat) : List (Int × Int) := (c.take k).map (scR pc)
theorem sclT_len {pc : Int} {c : List (Int × Int)} {k : Nat} (h : k ≤ c.length) : (sclT pc c k).length = k := by unfold sclT; rw [List.length_map, List.length_take]; omega
theorem sclT_succ {pc : Int} {c : List (Int × Int)} {k : Nat} (h : k < c.length) : sclT pc c (k + 1) = sclT pc c k ++ [scR pc (fg c k)] := by
  unfold sclT
  rw [List.take_succ_eq_append_getElem h, List.map_append, fg_mem h]; rfl
theorem sclT_end {pc : Int} {c : List (Int × Int)} : sclT pc c c.length = c.map (scR pc) := by unfold sclT; rw [List.take_length]
def SclPost (o : Option (List (Int × Int))) (w : World) (e : Ending) (w' : World) : Prop :=
  ∃ a' c', e = .returned (.tuple #[.slice a' (o.getD []).length c', .bool o.isSome]) ∧ (o.getD []).length ≤ c' ∧ Reads w' a' ((o.getD []).length * 2) (fracs (o.getD [])) ∧ Below w.heap.size w w'
theorem scR_val {pc : Int} (r : Int × Int) : scR pc r = (pc * r.1 / 100, (pc * r.2 + 100 - 1) / 100) := rfl
theorem mul_bd2 {a b : Int} (ha : 0 ≤ a ∧ a ≤ 200) (hb : 0 ≤ b ∧ b ≤ 50) : 0 ≤ a * b ∧ a * b ≤ 10000 :=
  ⟨Int.mul_nonneg ha.1 hb.1, Int.le_trans (Int.mul_le_mul ha.2 hb.2 hb.1 (by decide)) (by decide)⟩

theorem scaled_any (c : List (Int × Int)) (pc : Int) (a : Option Addr) (cap : Nat) (w : World) (hlc : c.length ≤ 20) (hc : ∀ k, k < c.length → 0 ≤ (fg c k).1 ∧ (fg c k).2 ≤ 50 ∧ (fg c k).1 ≤ (fg c k).2) (hpc : 0 ≤ pc ∧ pc ≤ 200) (hr : Reads w a (c.length * 2) (fracs c)) :
    Calls Tryz.prog 146 #[.slice a c.length cap, .int .i64 pc] w (SclPost (sclQ pc c) w) := by
  have HS := zH (fun k h1 h2 => sclQ_no (pc := pc) (c := c) (k := k) h1 h2)
  have HT := zH (fun h => sclQ_all (pc := pc) (c := c) h)
  have HV := zH (fun k hk => hc k hk)
  have HR := zH hr
  have HE := zH (sclT_end (pc := pc) (c := c))
  obtain ⟨so, hso⟩ : ∃ o, sclQ pc c = o := ⟨_, rfl⟩
  rw [hso] at HS HT ⊢
  have HLN := zH (fun k h => sclT_len (pc := pc) (c := c) (k := k) h)
  have HSU := zH (fun k h => sclT_succ (pc := pc) (c := c) (k := k) h)
  obtain ⟨n, hn⟩ : ∃ n, c.length = n := ⟨_, rfl⟩
  rw [hn] at HS HT HV HR HE HLN HSU hlc ⊢
  obtain ⟨hp0, hp1⟩ := hpc
  have HFL := zH (fun W lo (h : 0 ≤ pc * lo) (h2 : pc * lo ≤ 10000) => oFloor_any (pc * lo, 100) W ⟨h, by dsimp only; omega, by dsimp only; omega, by dsimp only; omega⟩)
  have HCE := zH (fun W lo (h : 0 ≤ pc * lo) (h2 : pc * lo ≤ 10000) => oCeil_any (pc * lo, 100) W ⟨h, by dsimp only; omega, by dsimp only; omega, by dsimp only; omega⟩)
  dsimp only at HFL HCE
  clear hr hc hso hn
  go_enter Tryz.func146, Tryz.ntmps146
  go_wp2_with fail
  go_loopw [6, 8, 9, 12] (fun s6 _ _ s12 wr => ∃ (k : Nat) (va : Option Addr) (vc : Nat), s6 = .slice va k vc ∧ s12 = .int .i64 k ∧ k ≤ n ∧ Hid (∀ j, j < k → (scR pc (fg c j)).2 ≤ 50) ∧ Hid (wr.ownsRow w.heap.size 25 2 (.slice va k vc) k (fcells (sclT pc c k))) ∧ Hid (Below w.heap.size w wr)) (fun _ _ _ s12 _ => n - (intOf s12).toNat)
  case atStart => exact ⟨0, none, 0, rfl, rfl, Nat.zero_le _, zH (by intro j h; omega), zH ⟨by simp [sclT, fcells], .inl ⟨rfl, rfl⟩⟩, zH (bSelf w)⟩
  case round =>
    obtain ⟨k, va, vc, rfl, rfl, hk, hle, HO, HR0⟩ := hrel
    by_cases hlt : k < n
    · obtain ⟨b, off, rfl, hb, hcc⟩ := (HR.out.to HR0.out).at (k := k * 2) (by omega)
      obtain ⟨⟨lo, hi⟩, hz⟩ : ∃ q, fg c k = q := ⟨_, rfl⟩
      have C0 : wr.cell? ⟨b, off + k * 2, none⟩ = some (.int .i64 lo) := by rw [hcc _ (by omega), fracs0, hz]
      have C1 : wr.cell? ⟨b, off + k * 2 + 1, none⟩ = some (.int .i64 hi) := by rw [Nat.add_assoc, hcc _ (by omega), fracs1, hz]
      obtain ⟨v0, v1, v2⟩ := HV.out k hlt
      have HSU1 := zH (HSU.out k hlt)
      have HSK := zH (fun h => HS.out k hlt h)
      rw [hz] at v0 v1 v2
      rw [hz, scR_val] at HSU1 HSK
      dsimp only at v0 v1 v2 HSU1 HSK
      obtain ⟨m0, m1⟩ := mul_bd2 (a := pc) (b := lo) ⟨hp0, hp1⟩ ⟨v0, by omega⟩
      obtain ⟨m2, m3⟩ := mul_bd2 (a := pc) (b := hi) ⟨hp0, hp1⟩ ⟨by omega, v1⟩
      have HF1 := zH (fun W => HFL.out W lo m0 m1)
      have HC1 := zH (fun W => HCE.out W hi m2 m3)
      obtain ⟨x1, hx1⟩ : ∃ x, pc * lo / 100 = x := ⟨_, rfl⟩
      obtain ⟨x2, hx2⟩ : ∃ x, (pc * hi + 100 - 1) / 100 = x := ⟨_, rfl⟩
      rw [hx1] at HF1 HSU1
      rw [hx2] at HC1 HSU1 HSK
      have HX0 : Hid (0 ≤ x2) := zH (by omega)
      have HX2 : Hid ((scR pc (fg c k)).2 = x2) := zH (by rw [hz, scR_val]; exact hx2)
      clear hcc hz HFL HCE HSU HS hx1 hx2
      have hbn : b < wr.heap.size := hb
      go_wp2_with fail
      clear C0 C1
      obtain ⟨wv, hwv⟩ : ∃ u, wr.alloc (.cells #[.int .i64 lo, .int .i64 hi] 25) = u := ⟨_, rfl⟩
      rw [hwv]
      have K8 : Hid (Blk wv wr.heap.size #[.int .i64 lo, .int .i64 hi]) := by subst hwv; exact zH (Blk.new _ _ _)
      have hbv : Below wr.heap.size wr wv := by subst hwv; exact bAlloc (bSelf _) _
      clear hwv
      replace HO := zH (owns_to HO.out hbv)
      replace HR0 := zH (bThen HR0.out hbv)
      obtain ⟨B8, hB8⟩ : ∃ u, wr.heap.size = u := ⟨_, rfl⟩
      rw [hB8] at K8 hbv hbn ⊢
      clear hbv hbn hB8 hb
      go_cut [9] from 16 to 28 (fun s9 wc => ∃ B, s9 = .pointer (some ⟨B, 0, none⟩) ∧ Hid (Blk wc B #[.int .i64 x1, .int .i64 x2]) ∧ Hid (Below wv.heap.size wv wc))
      case first =>
        refine wp_region_tree (by kernel_rfl) (fun wd hwd => ?_)
        have T := zH hwd
        clear hwd
        refine WTq 0 ?_; apply Exists.intro; refine ⟨fun w1 hb1 => ?_, ?_⟩; (focus ((have hb1 := zH hb1; go_simp); (try (go_bits; try go_simp)); (try (rw [if_pos (by omega)]; try go_simp)); (first | done | (with_reducible rfl) | exact rfl)))
        simp only [Act.put, zzT, zzO, zzS]
        refine WTq 1 ?_; apply Exists.intro; refine ⟨fun w1 hb1 => ?_, ?_⟩; (focus (((obtain ⟨-, k8, -⟩ := K8.out.to (T.out.trans hb1)); have hb1 := zH hb1; go_simp); (try (go_bits; try go_simp)); (try (rw [if_pos (by omega)]; try go_simp)); (first | done | (with_reducible rfl) | exact rfl)))
        simp only [Act.put, zzT, zzO, zzS]
        refine WTq 2 ?_; apply Exists.intro; refine ⟨fun w1 hb1 => ?_, ?_⟩; (focus (((obtain ⟨-, k8, -⟩ := K8.out.to (T.out.trans hb1)); have hb1 := zH hb1; go_simp); (try (go_bits; try go_simp)); (try (rw [if_pos (by omega)]; try go_simp)); (first | done | (with_reducible rfl) | exact rfl)))
        simp only [Act.put, zzT, zzO, zzS]
        refine WTq 3 ?_; apply Exists.intro; refine ⟨fun w1 hb1 => ?_, ?_⟩; (focus ((have hb1 := zH hb1; go_simp); (try (go_bits; try go_simp)); (try (rw [if_pos (by omega)]; try go_simp)); (first | done | (with_reducible rfl) | exact rfl)))
        simp only [Act.put, zzT, zzO, zzS]
        refine WTq 4 ?_; apply Exists.intro; refine ⟨fun w1 hb1 => ?_, ?_⟩; (focus ((have hb1 := zH hb1; go_simp); (try (go_bits; try go_simp)); (try (rw [if_pos (by omega)]; try go_simp)); (first | done | (with_reducible rfl) | exact rfl)))
        simp only [Act.put, zzT, zzO, zzS]
        refine WTq 6 ?_; apply Exists.intro; refine ⟨fun w1 hb1 => ?_, ?_⟩; (focus ((have hb1 := zH hb1; go_simp); (try (go_bits; try go_simp)); (try (rw [if_pos (by omega)]; try go_simp)); (first | done | (with_reducible rfl) | exact rfl)))
        simp only [Act.put, zzT, zzO, zzS]
        refine WTq 7 ?_; apply Exists.intro; refine ⟨fun w1 hb1 => ?_, ?_⟩; (focus (((obtain ⟨-, k8, -⟩ := K8.out.to (T.out.trans hb1)); have hb1 := zH hb1; go_simp); (try (go_bits; try go_simp)); (try (rw [if_pos (by omega)]; try go_simp)); (first | done | (with_reducible rfl) | exact rfl)))
        simp only [Act.put, zzT, zzO, zzS]
        refine WTq 8 ?_; apply Exists.intro; refine ⟨fun w1 hb1 => ?_, ?_⟩; (focus (((obtain ⟨-, k8, -⟩ := K8.out.to (T.out.trans hb1)); have hb1 := zH hb1; go_simp); (try (go_bits; try go_simp)); (try (rw [if_pos (by omega)]; try go_simp)); (first | done | (with_reducible rfl) | exact rfl)))
        simp only [Act.put, zzT, zzO, zzS]
        refine WTq 9 ?_; apply Exists.intro; refine ⟨fun w1 hb1 => ?_, ?_⟩; (focus ((have hb1 := zH hb1; go_simp); (try (go_bits; try go_simp)); (try (rw [if_pos (by omega)]; try go_simp)); (first | done | (with_reducible rfl) | exact rfl)))
        simp only [Act.put, zzT, zzO, zzS]
        refine WTq 10 ?_; apply Exists.intro; refine ⟨fun w1 hb1 => ?_, ?_⟩; (focus ((have hb1 := zH hb1; go_simp); (try (go_bits; try go_simp)); (try (rw [if_pos (by omega)]; try go_simp)); (first | done | (with_reducible rfl) | exact rfl)))
        simp only [Act.put, zzT, zzO, zzS]
        refine WT_two 5 13 rfl rfl (by kernel_rfl) ?_ ?_
        · unfold stepT
          go_wp2_with fail
          refine (HF1.out _).mono ?_
          rintro e u1 ⟨rfl, hb⟩
          have hbd := zH (hb.mono T.out.size)
          replace T := zH (bThen T.out hb)
          clear hb
          go_wp2_with fail
          refine ⟨hbd.out, ?_⟩
          clear hbd
          refine WT_two 11 13 rfl rfl (by kernel_rfl) ?_ ?_
          · unfold stepT
            go_wp2_with fail
            refine (HC1.out _).mono ?_
            rintro e u2 ⟨rfl, hb⟩
            have hbd := zH (hb.mono T.out.size)
            replace T := zH (bThen T.out hb)
            clear hb
            go_wp2_with fail
            refine ⟨hbd.out, ?_⟩
            clear hbd
            refine WTq 12 ?_; apply Exists.intro; refine ⟨fun w1 hb1 => ?_, ?_⟩; (focus ((have hb1 := zH hb1; go_simp); (try (go_bits; try go_simp)); (try (rw [if_pos (by omega)]; try go_simp)); (first | done | (with_reducible rfl) | exact rfl)))
            simp only [Act.put, zzT, zzO, zzS]
            refine WT_one 13 rfl (by kernel_rfl) ?_
            unfold stepT
            go_wp2_with fail
            obtain ⟨u3, hwA⟩ : ∃ wA, u2.alloc (.cells #[.int .i64 0, .int .i64 0] 25) = wA := ⟨_, rfl⟩
            rw [hwA]
            have hb : Below u2.heap.size u2 u3 := by subst hwA; exact bAlloc (bSelf _) _
            have KBN : Hid (Blk u3 u2.heap.size #[.int .i64 0, .int .i64 0]) := by subst hwA; exact Blk.new _ _ _
            clear hwA
            have BNN : Hid (wv.heap.size ≤ u2.heap.size) := zH T.out.size
            obtain ⟨BN, hBN⟩ : ∃ N, u2.heap.size = N := ⟨_, rfl⟩
            have hbd := zH (hb.mono T.out.size)
            replace T := zH (bThen T.out hb)
            clear hb
            rw [hBN] at KBN BNN  ⊢
            clear hBN
            refine ⟨hbd.out, ?_⟩
            clear hbd
            refine WT_one 14 rfl (by kernel_rfl) ?_
            unfold stepT
            obtain ⟨-, kx, fx⟩ := KBN.out
            go_wp2_with fail
            clear kx fx
            obtain ⟨u4, hu⟩ : ∃ u, (u3.setCell ⟨BN, 0, none⟩ (.int .i64 x1)).setCell ⟨BN, 1, none⟩ (.int .i64 x2) = u := ⟨_, rfl⟩
            have hb : Below wv.heap.size u3 u4 := by rw [← hu]; exact ((Below.refl _ _).setCell (p := ⟨BN, 0, none⟩) BNN.out _).setCell (p := ⟨BN, 1, none⟩) BNN.out _
            replace KBN := zH ((KBN.out.set 0 (.int .i64 x1)).set 1 (.int .i64 x2))
            rw [hu] at KBN ⊢
            clear hu
            replace T := zH (T.out.trans hb)
            refine ⟨hb, ?_⟩
            clear hb
            refine WT_done (by kernel_rfl) ?_
            go_wp2_with fail
            go_meet
            case rel => exact ⟨BN, rfl, KBN, T⟩
          · unfold stepT
            go_wp2_with fail
            obtain ⟨u2, hwA⟩ : ∃ wA, u1.alloc (.cells #[.int .i64 0, .int .i64 0] 25) = wA := ⟨_, rfl⟩
            rw [hwA]
            have hb : Below u1.heap.size u1 u2 := by subst hwA; exact bAlloc (bSelf _) _
            have KBN : Hid (Blk u2 u1.heap.size #[.int .i64 0, .int .i64 0]) := by subst hwA; exact Blk.new _ _ _
            clear hwA
            have BNN : Hid (wv.heap.size ≤ u1.heap.size) := zH T.out.size
            obtain ⟨BN, hBN⟩ : ∃ N, u1.heap.size = N := ⟨_, rfl⟩
            have hbd := zH (hb.mono T.out.size)
            replace T := zH (bThen T.out hb)
            clear hb
            rw [hBN] at KBN BNN  ⊢
            clear hBN
            refine ⟨hbd.out, ?_⟩
            clear hbd
            refine WT_one 11 rfl (by kernel_rfl) ?_
            unfold stepT
            go_wp2_with fail
            refine (HC1.out _).mono ?_
            rintro e u3 ⟨rfl, hb⟩
            replace KBN := zH (KBN.out.to hb)
            have hbd := zH (hb.mono T.out.size)
            replace T := zH (bThen T.out hb)
            clear hb
            go_wp2_with fail
            refine ⟨hbd.out, ?_⟩
            clear hbd
            refine WTq 12 ?_; apply Exists.intro; refine ⟨fun w1 hb1 => ?_, ?_⟩; (focus ((have hb1 := zH hb1; go_simp); (try (go_bits; try go_simp)); (try (rw [if_pos (by omega)]; try go_simp)); (first | done | (with_reducible rfl) | exact rfl)))
            simp only [Act.put, zzT, zzO, zzS]
            refine WT_one 14 rfl (by kernel_rfl) ?_
            unfold stepT
            obtain ⟨-, kx, fx⟩ := KBN.out
            go_wp2_with fail
            clear kx fx
            obtain ⟨u4, hu⟩ : ∃ u, (u3.setCell ⟨BN, 0, none⟩ (.int .i64 x1)).setCell ⟨BN, 1, none⟩ (.int .i64 x2) = u := ⟨_, rfl⟩
            have hb : Below wv.heap.size u3 u4 := by rw [← hu]; exact ((Below.refl _ _).setCell (p := ⟨BN, 0, none⟩) BNN.out _).setCell (p := ⟨BN, 1, none⟩) BNN.out _
            replace KBN := zH ((KBN.out.set 0 (.int .i64 x1)).set 1 (.int .i64 x2))
            rw [hu] at KBN ⊢
            clear hu
            replace T := zH (T.out.trans hb)
            refine ⟨hb, ?_⟩
            clear hb
            refine WT_done (by kernel_rfl) ?_
            go_wp2_with fail
            go_meet
            case rel => exact ⟨BN, rfl, KBN, T⟩
        · unfold stepT
          go_wp2_with fail
          obtain ⟨u1, hwA⟩ : ∃ wA, wd.alloc (.cells #[.int .i64 0, .int .i64 0] 25) = wA := ⟨_, rfl⟩
          rw [hwA]
          have hb : Below wd.heap.size wd u1 := by subst hwA; exact bAlloc (bSelf _) _
          have KBN : Hid (Blk u1 wd.heap.size #[.int .i64 0, .int .i64 0]) := by subst hwA; exact Blk.new _ _ _
          clear hwA
          have BNN : Hid (wv.heap.size ≤ wd.heap.size) := zH T.out.size
          obtain ⟨BN, hBN⟩ : ∃ N, wd.heap.size = N := ⟨_, rfl⟩
          have hbd := zH (hb.mono T.out.size)
          replace T := zH (bThen T.out hb)
          clear hb
          rw [hBN] at KBN BNN  ⊢
          clear hBN
          refine ⟨hbd.out, ?_⟩
          clear hbd
          refine WT_one 5 rfl (by kernel_rfl) ?_
          unfold stepT
          go_wp2_with fail
          refine (HF1.out _).mono ?_
          rintro e u2 ⟨rfl, hb⟩
          replace KBN := zH (KBN.out.to hb)
          have hbd := zH (hb.mono T.out.size)
          replace T := zH (bThen T.out hb)
          clear hb
          go_wp2_with fail
          refine ⟨hbd.out, ?_⟩
          clear hbd
          refine WT_one 11 rfl (by kernel_rfl) ?_
          unfold stepT
          go_wp2_with fail
          refine (HC1.out _).mono ?_
          rintro e u3 ⟨rfl, hb⟩
          replace KBN := zH (KBN.out.to hb)
          have hbd := zH (hb.mono T.out.size)
          replace T := zH (bThen T.out hb)
          clear hb
          go_wp2_with fail
          refine ⟨hbd.out, ?_⟩
          clear hbd
          refine WTq 12 ?_; apply Exists.intro; refine ⟨fun w1 hb1 => ?_, ?_⟩; (focus ((have hb1 := zH hb1; go_simp); (try (go_bits; try go_simp)); (try (rw [if_pos (by omega)]; try go_simp)); (first | done | (with_reducible rfl) | exact rfl)))
          simp only [Act.put, zzT, zzO, zzS]
          refine WT_one 14 rfl (by kernel_rfl) ?_
          unfold stepT
          obtain ⟨-, kx, fx⟩ := KBN.out
          go_wp2_with fail
          clear kx fx
          obtain ⟨u4, hu⟩ : ∃ u, (u3.setCell ⟨BN, 0, none⟩ (.int .i64 x1)).setCell ⟨BN, 1, none⟩ (.int .i64 x2) = u := ⟨_, rfl⟩
          have hb : Below wv.heap.size u3 u4 := by rw [← hu]; exact ((Below.refl _ _).setCell (p := ⟨BN, 0, none⟩) BNN.out _).setCell (p := ⟨BN, 1, none⟩) BNN.out _
          replace KBN := zH ((KBN.out.set 0 (.int .i64 x1)).set 1 (.int .i64 x2))
          rw [hu] at KBN ⊢
          clear hu
          replace T := zH (T.out.trans hb)
          refine ⟨hb, ?_⟩
          clear hb
          refine WT_done (by kernel_rfl) ?_
          go_wp2_with fail
          go_meet
          case rel => exact ⟨BN, rfl, KBN, T⟩
      obtain ⟨wz, hwz⟩ : ∃ wo, wo = wc := ⟨_, rfl⟩
      subst hwz
      obtain ⟨B9, rfl, K9, hb⟩ := hcut
      replace hb := hb.out
      replace HO := zH (owns_to HO.out hb)
      replace HR0 := zH (bThen HR0.out hb)
      clear hb K8 HF1 HC1
      obtain ⟨-, k9, -⟩ := K9.out
      by_cases hx : x2 ≤ 50
      · have hx0 : 0 ≤ x2 := HX0.out
        have hq : wthn x2 0 50 = true := wthn_iff.2 ⟨hx0, hx⟩
        have HQ := zH (fun W => by have := isFlow_any x2 W; rw [hq] at this; exact this)
        clear hq HSK
        have HNN := zH (Blk.new wz #[.int .i64 x1, .int .i64 x2] 25).news
        have HROW := zH (HO.out.alloc (.cells #[.int .i64 x1, .int .i64 x2] 25))
        have hlo := zH HO.out.lt
        have hsw : w.heap.size ≤ wz.heap.size := HR0.out.size
        go_wp2_with (first | (go_at_call 108; refine (HQ.out _).mono ?_; rintro e w' ⟨rfl, rfl⟩) | (at_builtin; go_loud (refine wpList_app w.heap.size rtRg rfl (.tmp 33) (.tmp 35) rfl _ k _ rfl HROW.out ⟨wz.heap.size, 0, none⟩ 1 1 [.int .i64 x1, .int .i64 x2] rfl rfl (by simpa using HNN.out) (onesF [(x1, x2)]) (by unfold maxLen; omega) (by omega) (by simp; omega) ?_; intro v' w7 hown' hgrow _ hwhere; obtain ⟨va', vc', rfl⟩ := ownsRow_sl hown'; have HO7 := zH hown'; have HG7 := zH hgrow; clear hown' hgrow hwhere k9)))
        have HRn : Hid (Below w.heap.size w w7) := zH (HR0.out.trans (((Below.refl _ _).alloc hsw _).grown HG7.out (by simp; omega) (fun k e => (hlo.out k e).1)))
        go_roundw
        case rel => exact ⟨k + 1, va', vc', rfl, by go_num, by omega, zH (fun j hj => by
            by_cases h : j = k
            · subst h; rw [HX2.out]; exact hx
            · exact hle.out j (by omega)), zH (by rw [HSU1.out, fcells_app]; exact HO7.out), HRn⟩
        case measure => simp [intOf]; omega
      · have hq : wthn x2 0 50 = false := by rw [← Bool.not_eq_true, wthn_iff]; omega
        have HQ := zH (fun W => by have := isFlow_any x2 W; rw [hq] at this; exact this)
        obtain rfl : so = none := HSK.out (by omega)
        clear hq
        go_wp2_with (go_at_call 108; refine (HQ.out _).mono ?_; rintro e w' ⟨rfl, rfl⟩)
        refine bodyPost_ret (results_tmp2 rfl _ _ _) rfl ?_
        exact ⟨none, 0, rfl, Nat.le_refl _, .inl rfl, HR0.out⟩
    · obtain rfl : n = k := by omega
      obtain rfl : so = some (c.map (scR pc)) := HT.out hle.out
      obtain ⟨a', cap', e, hcp, hrd, hfr⟩ := Reads.of_row (f := fracs (sclT pc c n)) HO.out (fun i hi => fcells_get _ i (by rw [HLN.out n (Nat.le_refl _)]; exact hi))
      cases e
      rw [HE.out] at hrd
      have HRD := zH hrd
      have HLL : Hid ((c.map (scR pc)).length = n) := zH (by rw [← HE.out]; exact HLN.out n (Nat.le_refl _))
      clear hrd hfr HO
      go_wp2_with fail
      refine bodyPost_ret (results_tmp2 rfl _ _ _) rfl ?_
      refine ⟨va, vc, ?_, ?_, ?_, HR0.out⟩
      · show _ = Ending.returned (.tuple #[.slice va (c.map (scR pc)).length vc, .bool true])
        rw [HLL.out]; rfl
      · show (c.map (scR pc)).length ≤ vc
        rw [HLL.out]; exact hcp
      · show Reads _ va ((c.map (scR pc)).length * 2) (fracs (c.map (scR pc)))
        rw [HLL.out]; exact HRD.out

/-- Scaled's answer and its error. -/
def sclE (c : List (Int × Int)) (pc : Int) : Int := if (chCl c).2 = 0 then (if unl (wthn pc 0 200) 2 = 0 then unl (sclQ pc c).isSome 8 else unl (wthn pc 0 200) 2) else (chCl c).2
def sclO (c : List (Int × Int)) (pc : Int) : List (Int × Int) := if (chCl c).2 = 0 then (if unl (wthn pc 0 200) 2 = 0 then (sclQ pc c).getD [] else []) else []

theorem Scaled_any (c : List (Int × Int)) (pc : Int) (a : Option Addr) (cap : Nat) (w : World) (hlc : c.length ≤ maxLen) (hr : Reads w a (c.length * 2) (fracs c)) :
    Calls Tryz.prog 70 #[.slice a c.length cap, .int .i64 pc] w fun e w' => ∃ a' c', e = .returned (.tuple #[.slice a' (sclO c pc).length c', .int .i64 (sclE c pc)]) ∧ (sclO c pc).length ≤ c' ∧ Reads w' a' ((sclO c pc).length * 2) (fracs (sclO c pc)) ∧ Below w.heap.size w w' := by
  have HCE := zH (fun W (hb : Below w.heap.size w W) => classErr_any c a cap W hlc (hr.to hb))
  have HSC := zH (fun W (h0 : (chCl c).2 = 0) (h1 : unl (wthn pc 0 200) 2 = 0) (hb : Below w.heap.size w W) => scaled_any c pc a cap W (chCl_ok h0).1 (chCl_ok h0).2 (by rw [unlZ (by decide), wthn_iff] at h1; exact h1) (hr.to hb))
  have HOE : Hid (sclE c pc = if (chCl c).2 = 0 then (if unl (wthn pc 0 200) 2 = 0 then unl (sclQ pc c).isSome 8 else unl (wthn pc 0 200) 2) else (chCl c).2) := zH rfl
  have HOO : Hid (sclO c pc = if (chCl c).2 = 0 then (if unl (wthn pc 0 200) 2 = 0 then (sclQ pc c).getD [] else []) else []) := zH rfl
  obtain ⟨ce, hce⟩ : ∃ e, (chCl c).2 = e := ⟨_, rfl⟩
  obtain ⟨re, hre⟩ : ∃ e, sclE c pc = e := ⟨_, rfl⟩
  obtain ⟨ro, hro⟩ : ∃ e, sclO c pc = e := ⟨_, rfl⟩
  obtain ⟨so, hso⟩ : ∃ e, sclQ pc c = e := ⟨_, rfl⟩
  obtain ⟨pb, hpb⟩ : ∃ e, wthn pc 0 200 = e := ⟨_, rfl⟩
  have HW := zH (fun W => by have := oWithin_any pc 0 200 W; rw [show (decide (0 ≤ pc) && decide (pc ≤ 200)) = pb from hpb] at this; exact this)
  have HFI := zH (fun W b h => oFirst2_new ce (unl pb 2) b W h)
  have HF2 : Hid (firstE [ce, unl pb 2] = if ce = 0 then unl pb 2 else ce) := zH (by
    unfold firstE
    by_cases h1 : ce = 0
    · rw [if_pos h1, if_pos h1]
      unfold firstE
      by_cases h2 : unl pb 2 = 0
      · rw [if_pos h2, h2]; rfl
      · rw [if_neg h2]
    · rw [if_neg h1, if_neg h1])
  rw [hce] at HCE HSC HOE HOO
  rw [hre] at HOE ⊢
  rw [hro] at HOO ⊢
  rw [hso] at HSC HOE HOO
  rw [hpb] at HSC HOE HOO
  unfold SclPost at HSC
  obtain ⟨fe, hfe⟩ : ∃ e, firstE [ce, unl pb 2] = e := ⟨_, rfl⟩
  have HFE := zH hfe
  rw [hfe] at HF2 HFI
  clear hce hre hro hso hpb hfe hr hlc
  go_enter Tryz.func70, Tryz.ntmps70
  go_wp2_with fail
  refine (HCE.out _ (bSelf w)).mono ?_
  rintro e w1 ⟨rfl, hb⟩
  replace HB := zH hb
  clear hb HCE
  have HB2 := zH (fun o => bAlloc HB.out o)
  by_cases h0 : fe = 0
  · subst h0
    have hc0 : ce = 0 ∧ unl pb 2 = 0 := by
      have := HF2.out
      split at this
      · rename_i h; exact ⟨h, this.symm⟩
      · rename_i h; exact absurd this.symm h
    obtain ⟨rfl, hu⟩ := hc0
    have HSS := zH (fun W hb => HSC.out W rfl hu hb)
    have hOE := HOE.out
    have hOO := HOO.out
    rw [if_pos rfl, if_pos hu] at hOE hOO
    obtain ⟨so', hso'⟩ : ∃ u, so.getD [] = u := ⟨_, rfl⟩
    rw [hso'] at HSS hOO
    subst hOO
    have HOE2 := zH hOE
    clear HSC HOE HOO hu hOE hso' HF2 HFE
    go_wp2_with (first | (go_at_call 99; refine (HW.out _).mono ?_; rintro e w' ⟨rfl, rfl⟩) | (go_at_call 94; refine (oUnless_any _ _ _).mono ?_; rintro e w' ⟨rfl, rfl⟩) | (go_at_call 92; refine (HFI.out _ _ (by simp)).mono ?_; rintro e w' ⟨rfl, rfl⟩))
    refine (HSS.out _ (HB2.out _)).mono ?_
    rintro e w3 ⟨a', c', rfl, hc', hrd, hb⟩
    replace HB := zH (bThen (HB2.out _) hb)
    have HRD := zH hrd
    clear hb hrd HSS HB2
    go_wp2_with (go_at_call 94; refine (oUnless_any _ _ _).mono ?_; rintro e w' ⟨rfl, rfl⟩; rw [← HOE2.out])
    refine bodyPost_ret (results_tmp2 rfl _ _ _) rfl ?_
    exact ⟨a', c', rfl, hc', HRD.out, HB.out⟩
  · have hre : re = fe := by
      rw [HOE.out, HF2.out]
      split
      · rename_i h
        rw [if_neg]
        intro h2
        exact h0 (by rw [HF2.out, if_pos h]; exact h2)
      · rfl
    have hro : ro = [] := by
      rw [HOO.out]
      split
      · rename_i h
        rw [if_neg]
        intro h2
        exact h0 (by rw [HF2.out, if_pos h]; exact h2)
      · rfl
    subst hre hro
    have hfe : (re != 0) = true := by simpa using h0
    clear HOE HOO HF2 HFE HSC h0
    go_wp2_with (first | (go_at_call 99; refine (HW.out _).mono ?_; rintro e w' ⟨rfl, rfl⟩) | (go_at_call 94; refine (oUnless_any _ _ _).mono ?_; rintro e w' ⟨rfl, rfl⟩) | (go_at_call 92; refine (HFI.out _ _ (by simp)).mono ?_; rintro e w' ⟨rfl, rfl⟩))
    refine bodyPost_ret (results_tmp2 rfl _ _ _) rfl ?_
    exact ⟨none, 0, rfl, Nat.le_refl _, .inl rfl, HB2.out _⟩
end
end Go.Proofs.YtjfedpblkejmkaaGreat
