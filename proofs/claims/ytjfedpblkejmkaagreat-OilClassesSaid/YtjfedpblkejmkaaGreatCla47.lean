/-
  Texts of this claim, in their build order: OR24 OM25.
-/
import Derived.Test.YtjfedpblkejmkaaGreatCla46
import Derived.Test.YtjfedpblkejmkaaGreatCla39
import Derived.Test.YtjfedpblkejmkaaGreatCla36
import Derived.Test.YtjfedpblkejmkaaGreatCla28
import Derived.Test.YtjfedpblkejmkaaGreatCla0

namespace Go.Proofs.YtjfedpblkejmkaaGreat
section
set_option maxRecDepth 100000
set_option maxHeartbeats 6400000
open Go.RowKit
attribute [local go_sem] Oper.semAt_some

theorem Ranges_any (zs ys : List (Int × Int)) (a b : Option Addr) (ca cb : Nat) (w : World) (hlz : zs.length ≤ maxLen) (hra : Reads w a (zs.length * 2) (fracs zs)) (hrb : Reads w b (ys.length * 2) (fracs ys)) :
    Calls Tryz.prog 73 #[.slice a zs.length ca, .slice b ys.length cb] w fun e w' => e = .returned (.bool (decide (zs = ys))) ∧ Below w.heap.size w w' := by
  unfold maxLen at hlz
  have HA := zH hra
  have HB := zH hrb
  clear hra hrb
  by_cases hl : zs.length = ys.length
  · have HL := zH hl
    have hl1 : zs.length ≤ ys.length := by omega
    have hl2 : ys.length ≤ zs.length := by omega
    clear hl
    go_enter Tryz.func73, Tryz.ntmps73
    go_wp2_with fail
    go_loopw [5] (fun i wr => ∃ k : Nat, k ≤ zs.length ∧ i = .int .i64 k ∧ Hid (∀ j, j < k → fg zs j = fg ys j) ∧ Hid (Below w.heap.size w wr)) (fun i _ => zs.length - (intOf i).toNat)
    case atStart => exact ⟨0, Nat.zero_le _, rfl, zH (by intro j h; omega), zH (bSelf w)⟩
    case round =>
      obtain ⟨k, hk, rfl, hp, hB⟩ := hrel
      by_cases hlt : k < zs.length
      · have hlt2 : k < ys.length := by omega
        obtain ⟨ba, oa, rfl, hba, hca⟩ := (HA.out.to hB.out).at (k := k * 2) (by omega)
        obtain ⟨bb, ob, rfl, hbb, hcb⟩ := (HB.out.to hB.out).at (k := k * 2) (by omega)
        obtain ⟨n1, d1, hz⟩ : ∃ n1 d1, fg zs k = (n1, d1) := ⟨_, _, rfl⟩
        obtain ⟨n2, d2, hy⟩ : ∃ n2 d2, fg ys k = (n2, d2) := ⟨_, _, rfl⟩
        have h1 : Hid (wr.cell? ⟨ba, oa + k * 2, none⟩ = some (.int .i64 n1)) := zH (by rw [hca _ (by omega), fracs0, hz])
        have h2 : Hid (wr.cell? ⟨ba, oa + k * 2 + 1, none⟩ = some (.int .i64 d1)) := zH (by rw [Nat.add_assoc, hca _ (by omega), fracs1, hz])
        have h3 : Hid (wr.cell? ⟨bb, ob + k * 2, none⟩ = some (.int .i64 n2)) := zH (by rw [hcb _ (by omega), fracs0, hy])
        have h4 : Hid (wr.cell? ⟨bb, ob + k * 2 + 1, none⟩ = some (.int .i64 d2)) := zH (by rw [Nat.add_assoc, hcb _ (by omega), fracs1, hy])
        clear hca hcb
        have HZ := zH hz
        have HY := zH hy
        clear hz hy
        by_cases he : (n1, d1) = (n2, d2)
        · cases he
          go_wp2_with fail
          refine wp_region_quiet_all (fun w' => Below (World.heap wr).size (wr) w') (by kernel_rfl) (by kernel_rfl) (Below.refl _ _).drew ?_
          refine WQ.out ?_
          repeat (first | (refine WQ_no (by rfl) ?_; (simp only [Act.put, zzT, zzO, zzS])) | (refine WQ_yes (by rfl) ?_; apply Exists.intro; refine ⟨fun w1 hb1 => ?_, ?_⟩; (focus (((have k1 := (hb1.cell (p := ⟨ba, oa + k * 2, none⟩) hba).trans h1.out; have k2 := (hb1.cell (p := ⟨ba, oa + k * 2 + 1, none⟩) hba).trans h2.out; have k3 := (hb1.cell (p := ⟨bb, ob + k * 2, none⟩) hbb).trans h3.out; have k4 := (hb1.cell (p := ⟨bb, ob + k * 2 + 1, none⟩) hbb).trans h4.out); have hb1 := zH hb1; go_simp); (try (go_bits; try go_simp)); (try (rw [if_pos (by omega)]; try go_simp)); (first | done | (with_reducible rfl) | exact rfl))); (simp only [Act.put, zzT, zzO, zzS])))
          refine WQ_nil ?_
          intro w1 hb1
          go_wp2_with fail
          go_roundw
          case rel =>
            refine ⟨k + 1, by omega, by go_num, zH (fun j hj => ?_), zH (bThen hB.out hb1)⟩
            by_cases h : j = k
            · subst h; rw [HZ.out, HY.out]
            · exact hp.out j (by omega)
          case measure => simp [intOf]; omega
        · have HE := zH he
          have hcs : (¬ n1 = n2) ∨ (n1 = n2 ∧ ¬ d1 = d2) := by
            by_cases h : n1 = n2
            · exact .inr ⟨h, fun h2 => he (by rw [h, h2])⟩
            · exact .inl h
          clear he
          rcases hcs with hn | ⟨rfl, hn⟩
          all_goals
            go_wp2_with fail
            refine wp_region_quiet_all (fun w' => Below (World.heap wr).size (wr) w') (by kernel_rfl) (by kernel_rfl) (Below.refl _ _).drew ?_
            refine WQ.out ?_
            repeat (first | (refine WQ_no (by rfl) ?_; (simp only [Act.put, zzT, zzO, zzS])) | (refine WQ_yes (by rfl) ?_; apply Exists.intro; refine ⟨fun w1 hb1 => ?_, ?_⟩; (focus (((have k1 := (hb1.cell (p := ⟨ba, oa + k * 2, none⟩) hba).trans h1.out; have k2 := (hb1.cell (p := ⟨ba, oa + k * 2 + 1, none⟩) hba).trans h2.out; have k3 := (hb1.cell (p := ⟨bb, ob + k * 2, none⟩) hbb).trans h3.out; have k4 := (hb1.cell (p := ⟨bb, ob + k * 2 + 1, none⟩) hbb).trans h4.out); have hb1 := zH hb1; go_simp); (try (go_bits; try go_simp)); (try (rw [if_pos (by omega)]; try go_simp)); (first | done | (with_reducible rfl) | exact rfl))); (simp only [Act.put, zzT, zzO, zzS])))
            refine WQ_nil ?_
            intro w1 hb1
            go_wp2_with fail
            go_ret
            exact ⟨ret_bool (by have : ¬ zs = ys := fun h => HE.out (by rw [← HZ.out, ← HY.out, h]); simp [this]), bThen hB.out hb1⟩
      · have : k = zs.length := by omega
        subst this
        go_wp2_with fail
        go_ret
        exact ⟨ret_bool (by have : zs = ys := fg_ext HL.out hp.out; simp [this]), hB.out⟩
  · have HL := zH hl
    have h1 : ((zs.length : Int) != ys.length) = true := by simp; omega
    clear hl
    go_enter Tryz.func73, Tryz.ntmps73
    go_wp2_with fail
    go_ret
    exact ⟨ret_bool (by have : ¬ zs = ys := fun h => HL.out (by rw [h]); simp [this]), bSelf w⟩

theorem bCeil_any (n m : Int) (w : World) (hm : 0 < m) (h1 : -1000000000000000000 ≤ n) (h2 : n ≤ 1000000000000000000) (h3 : m ≤ 1000000000000000000) :
    Calls Tryz.prog 148 #[.int .i64 n, .int .i64 m] w fun e w' => e = .returned (.int .i64 (-(-n / m))) ∧ w = w' := by
  have hF := zH (fun W => bFloor_any (-n) m W hm (by omega) (by omega) h3)
  have b1 : -n / m ≤ 1000000000000000000 := by
    have := Int.ediv_le_ediv hm (show -n ≤ 1000000000000000000 * m by have := Int.mul_le_mul_of_nonneg_left (show 1 ≤ m by omega) (show (0 : Int) ≤ 1000000000000000000 by decide); omega)
    rw [Int.mul_ediv_cancel _ (by omega)] at this
    exact this
  have b2 : -1000000000000000000 ≤ -n / m := by
    rw [Int.le_ediv_iff_mul_le hm]
    have := Int.mul_le_mul_of_nonneg_left (show 1 ≤ m by omega) (show (0 : Int) ≤ 1000000000000000000 by decide)
    omega
  obtain ⟨q, hq⟩ : ∃ q, -n / m = q := ⟨_, rfl⟩
  rw [hq] at hF b1 b2 ⊢
  clear hq
  go_enter Tryz.func148, Tryz.ntmps148
  go_wp2_with (go_at_call 147; refine (hF.out _).mono ?_; rintro e w' ⟨rfl, rfl⟩)
  go_ret
  exact ⟨rfl, rfl⟩

theorem rScaled_any (c : List (Int × Int)) (pc : Int) (a : Option Addr) (cap : Nat) (w : World) (hlc : c.length ≤ 20) (hc : ∀ k, k < c.length → 0 ≤ (fg c k).1 ∧ (fg c k).2 ≤ 50 ∧ (fg c k).1 ≤ (fg c k).2) (hpc : 0 ≤ pc ∧ pc ≤ 200) (hr : Reads w a (c.length * 2) (fracs c)) :
    Calls Tryz.prog 72 #[.slice a c.length cap, .int .i64 pc] w (SclPost (sclQ pc c) w) := by
  have HS := zH (fun k h1 h2 => sclQ_no (pc := pc) (c := c) (k := k) h1 h2)
  have HT := zH (fun h => sclQ_all (pc := pc) (c := c) h)
  have HV := zH (fun k hk => hc k hk)
  have HR := zH hr
  have HE := zH (sclT_end (pc := pc) (c := c))
  obtain ⟨so, hso⟩ : ∃ o, sclQ pc c = o := ⟨_, rfl⟩
  rw [hso] at HS HT ⊢
  have HLN := zH (fun k h => sclT_len (pc := pc) (c := c) (k := k) h)
  have HSU := zH (fun k h => sclT_succ (pc := pc) (c := c) (k := k) h)
  obtain ⟨n, hn⟩ : ∃ n, c.length = n := ⟨_, rfl⟩
  rw [hn] at HS HT HV HR HE HLN HSU hlc ⊢
  obtain ⟨hp0, hp1⟩ := hpc
  have HFL := zH (fun W lo (h : 0 ≤ pc * lo) (h2 : pc * lo ≤ 10000) => bFloor_any (pc * lo) 100 W (by decide) (by omega) (by omega) (by decide))
  have HCE := zH (fun W lo (h : 0 ≤ pc * lo) (h2 : pc * lo ≤ 10000) => bCeil_any (pc * lo) 100 W (by decide) (by omega) (by omega) (by decide))
  clear hr hc hso hn
  go_enter Tryz.func72, Tryz.ntmps72
  go_wp2_with fail
  go_loopw [6, 7, 8] (fun s6 s7 _ wr => ∃ (k : Nat) (va : Option Addr) (vc : Nat), s6 = .slice va k vc ∧ s7 = .int .i64 k ∧ k ≤ n ∧ Hid (∀ j, j < k → (scR pc (fg c j)).2 ≤ 50) ∧ Hid (wr.ownsRow w.heap.size 25 2 (.slice va k vc) k (fcells (sclT pc c k))) ∧ Hid (Below w.heap.size w wr)) (fun _ s7 _ _ => n - (intOf s7).toNat)
  case atStart => exact ⟨0, none, 0, rfl, rfl, Nat.zero_le _, zH (by intro j h; omega), zH ⟨by simp [sclT, fcells], .inl ⟨rfl, rfl⟩⟩, zH (bSelf w)⟩
  case round =>
    obtain ⟨k, va, vc, rfl, rfl, hk, hle, HO, HR0⟩ := hrel
    by_cases hlt : k < n
    · obtain ⟨b, off, rfl, hb, hcc⟩ := (HR.out.to HR0.out).at (k := k * 2) (by omega)
      obtain ⟨⟨lo, hi⟩, hz⟩ : ∃ q, fg c k = q := ⟨_, rfl⟩
      obtain ⟨wv, hwv⟩ : ∃ wv, wv = wr := ⟨_, rfl⟩
      subst hwv
      have C0 : Hid (wv.cell? ⟨b, off + k * 2, none⟩ = some (.int .i64 lo)) := zH (by rw [hcc _ (by omega), fracs0, hz])
      have C1 : Hid (wv.cell? ⟨b, off + k * 2 + 1, none⟩ = some (.int .i64 hi)) := zH (by rw [Nat.add_assoc, hcc _ (by omega), fracs1, hz])
      obtain ⟨v0, v1, v2⟩ := HV.out k hlt
      have HSU1 := zH (HSU.out k hlt)
      have HSK := zH (fun h => HS.out k hlt h)
      rw [hz] at v0 v1 v2
      rw [hz, scR_val] at HSU1 HSK
      dsimp only at v0 v1 v2 HSU1 HSK
      obtain ⟨m0, m1⟩ := mul_bd2 (a := pc) (b := lo) ⟨hp0, hp1⟩ ⟨v0, by omega⟩
      obtain ⟨m2, m3⟩ := mul_bd2 (a := pc) (b := hi) ⟨hp0, hp1⟩ ⟨by omega, v1⟩
      have HF1 := zH (fun W => HFL.out W lo m0 m1)
      have HC1 := zH (fun W => HCE.out W hi m2 m3)
      obtain ⟨x1, hx1⟩ : ∃ x, pc * lo / 100 = x := ⟨_, rfl⟩
      obtain ⟨x2, hx2⟩ : ∃ x, (pc * hi + 100 - 1) / 100 = x := ⟨_, rfl⟩
      rw [hx1] at HF1 HSU1
      rw [hx2] at HSU1 HSK
      rw [show -(-(pc * hi) / 100) = x2 by omega] at HC1
      have HX0 : Hid (0 ≤ x2) := zH (by omega)
      have HX2 : Hid ((scR pc (fg c k)).2 = x2) := zH (by rw [hz, scR_val]; exact hx2)
      clear hcc hz HFL HCE HSU HS hx1 hx2
      go_wp2_with fail
      go_cut [8] from 15 to 31 (fun s8 wc => ∃ B, s8 = .pointer (some ⟨B, 0, none⟩) ∧ Hid (Blk wc B #[.int .i64 x1, .int .i64 x2]) ∧ Hid (Below wv.heap.size wv wc))
      case first =>
        refine wp_region_tree (by kernel_rfl) (fun wd hwd => ?_)
        have T := zH hwd
        clear hwd
        refine WTq 0 ?_; apply Exists.intro; refine ⟨fun w1 hb1 => ?_, ?_⟩; (focus ((have hb1 := zH hb1; go_simp); (try (go_bits; try go_simp)); (try (rw [if_pos (by omega)]; try go_simp)); (first | done | (with_reducible rfl) | exact rfl)))
        simp only [Act.put, zzT, zzO, zzS]
        refine WTq 1 ?_; apply Exists.intro; refine ⟨fun w1 hb1 => ?_, ?_⟩; (focus ((have hb1 := zH hb1; go_simp); (try (go_bits; try go_simp)); (try (rw [if_pos (by omega)]; try go_simp)); (first | done | (with_reducible rfl) | exact rfl)))
        simp only [Act.put, zzT, zzO, zzS]
        refine WTq 2 ?_; apply Exists.intro; refine ⟨fun w1 hb1 => ?_, ?_⟩; (focus ((have hb1 := zH hb1; go_simp); (try (go_bits; try go_simp)); (try (rw [if_pos (by omega)]; try go_simp)); (first | done | (with_reducible rfl) | exact rfl)))
        simp only [Act.put, zzT, zzO, zzS]
        refine WTq 3 ?_; apply Exists.intro; refine ⟨fun w1 hb1 => ?_, ?_⟩; (focus ((have hb1 := zH hb1; go_simp); (try (go_bits; try go_simp)); (try (rw [if_pos (by omega)]; try go_simp)); (first | done | (with_reducible rfl) | exact rfl)))
        simp only [Act.put, zzT, zzO, zzS]
        refine WTq 4 ?_; apply Exists.intro; refine ⟨fun w1 hb1 => ?_, ?_⟩; (focus (((have c0 := ((T.out.trans hb1).cell (p := ⟨b, off + k * 2, none⟩) hb).trans C0.out; have c1 := ((T.out.trans hb1).cell (p := ⟨b, off + k * 2 + 1, none⟩) hb).trans C1.out); have hb1 := zH hb1; go_simp); (try (go_bits; try go_simp)); (try (rw [if_pos (by omega)]; try go_simp)); (first | done | (with_reducible rfl) | exact rfl)))
        simp only [Act.put, zzT, zzO, zzS]
        refine WTq 5 ?_; apply Exists.intro; refine ⟨fun w1 hb1 => ?_, ?_⟩; (focus (((have c0 := ((T.out.trans hb1).cell (p := ⟨b, off + k * 2, none⟩) hb).trans C0.out; have c1 := ((T.out.trans hb1).cell (p := ⟨b, off + k * 2 + 1, none⟩) hb).trans C1.out); have hb1 := zH hb1; go_simp); (try (go_bits; try go_simp)); (try (rw [if_pos (by omega)]; try go_simp)); (first | done | (with_reducible rfl) | exact rfl)))
        simp only [Act.put, zzT, zzO, zzS]
        refine WTq 6 ?_; apply Exists.intro; refine ⟨fun w1 hb1 => ?_, ?_⟩; (focus ((have hb1 := zH hb1; go_simp); (try (go_bits; try go_simp)); (try (rw [if_pos (by omega)]; try go_simp)); (first | done | (with_reducible rfl) | exact rfl)))
        simp only [Act.put, zzT, zzO, zzS]
        refine WTq 8 ?_; apply Exists.intro; refine ⟨fun w1 hb1 => ?_, ?_⟩; (focus ((have hb1 := zH hb1; go_simp); (try (go_bits; try go_simp)); (try (rw [if_pos (by omega)]; try go_simp)); (first | done | (with_reducible rfl) | exact rfl)))
        simp only [Act.put, zzT, zzO, zzS]
        refine WTq 9 ?_; apply Exists.intro; refine ⟨fun w1 hb1 => ?_, ?_⟩; (focus ((have hb1 := zH hb1; go_simp); (try (go_bits; try go_simp)); (try (rw [if_pos (by omega)]; try go_simp)); (first | done | (with_reducible rfl) | exact rfl)))
        simp only [Act.put, zzT, zzO, zzS]
        refine WTq 10 ?_; apply Exists.intro; refine ⟨fun w1 hb1 => ?_, ?_⟩; (focus ((have hb1 := zH hb1; go_simp); (try (go_bits; try go_simp)); (try (rw [if_pos (by omega)]; try go_simp)); (first | done | (with_reducible rfl) | exact rfl)))
        simp only [Act.put, zzT, zzO, zzS]
        refine WTq 11 ?_; apply Exists.intro; refine ⟨fun w1 hb1 => ?_, ?_⟩; (focus ((have hb1 := zH hb1; go_simp); (try (go_bits; try go_simp)); (try (rw [if_pos (by omega)]; try go_simp)); (first | done | (with_reducible rfl) | exact rfl)))
        simp only [Act.put, zzT, zzO, zzS]
        refine WTq 12 ?_; apply Exists.intro; refine ⟨fun w1 hb1 => ?_, ?_⟩; (focus (((have c0 := ((T.out.trans hb1).cell (p := ⟨b, off + k * 2, none⟩) hb).trans C0.out; have c1 := ((T.out.trans hb1).cell (p := ⟨b, off + k * 2 + 1, none⟩) hb).trans C1.out); have hb1 := zH hb1; go_simp); (try (go_bits; try go_simp)); (try (rw [if_pos (by omega)]; try go_simp)); (first | done | (with_reducible rfl) | exact rfl)))
        simp only [Act.put, zzT, zzO, zzS]
        refine WTq 13 ?_; apply Exists.intro; refine ⟨fun w1 hb1 => ?_, ?_⟩; (focus (((have c0 := ((T.out.trans hb1).cell (p := ⟨b, off + k * 2, none⟩) hb).trans C0.out; have c1 := ((T.out.trans hb1).cell (p := ⟨b, off + k * 2 + 1, none⟩) hb).trans C1.out); have hb1 := zH hb1; go_simp); (try (go_bits; try go_simp)); (try (rw [if_pos (by omega)]; try go_simp)); (first | done | (with_reducible rfl) | exact rfl)))
        simp only [Act.put, zzT, zzO, zzS]
        refine WTq 14 ?_; apply Exists.intro; refine ⟨fun w1 hb1 => ?_, ?_⟩; (focus ((have hb1 := zH hb1; go_simp); (try (go_bits; try go_simp)); (try (rw [if_pos (by omega)]; try go_simp)); (first | done | (with_reducible rfl) | exact rfl)))
        simp only [Act.put, zzT, zzO, zzS]
        refine WT_two 7 17 rfl rfl (by kernel_rfl) ?_ ?_
        · unfold stepT
          go_wp2_with fail
          refine (HF1.out _).mono ?_
          rintro e w' ⟨rfl, rfl⟩
          go_wp2_with fail
          refine ⟨Below.refl _ _, ?_⟩
          refine WT_two 15 17 rfl rfl (by kernel_rfl) ?_ ?_
          · unfold stepT
            go_wp2_with fail
            refine (HC1.out _).mono ?_
            rintro e w' ⟨rfl, rfl⟩
            go_wp2_with fail
            refine ⟨Below.refl _ _, ?_⟩
            refine WTq 16 ?_; apply Exists.intro; refine ⟨fun w1 hb1 => ?_, ?_⟩; (focus ((have hb1 := zH hb1; go_simp); (try (go_bits; try go_simp)); (try (rw [if_pos (by omega)]; try go_simp)); (first | done | (with_reducible rfl) | exact rfl)))
            simp only [Act.put, zzT, zzO, zzS]
            refine WT_one 17 rfl (by kernel_rfl) ?_
            unfold stepT
            go_wp2_with fail
            obtain ⟨u1, hwA⟩ : ∃ wA, wd.alloc (.cells #[.int .i64 0, .int .i64 0] 25) = wA := ⟨_, rfl⟩
            rw [hwA]
            have hb : Below wd.heap.size wd u1 := by subst hwA; exact bAlloc (bSelf _) _
            have KBN : Hid (Blk u1 wd.heap.size #[.int .i64 0, .int .i64 0]) := by subst hwA; exact Blk.new _ _ _
            clear hwA
            have BNN : Hid (wv.heap.size ≤ wd.heap.size) := zH T.out.size
            obtain ⟨BN, hBN⟩ : ∃ N, wd.heap.size = N := ⟨_, rfl⟩
            have hbd := zH (hb.mono T.out.size)
            replace T := zH (bThen T.out hb)
            clear hb
            rw [hBN] at KBN BNN  ⊢
            clear hBN
            refine ⟨hbd.out, ?_⟩
            clear hbd
            refine WT_one 18 rfl (by kernel_rfl) ?_
            unfold stepT
            obtain ⟨-, kx, fx⟩ := KBN.out
            go_wp2_with fail
            clear kx fx
            obtain ⟨u2, hu⟩ : ∃ u, (u1.setCell ⟨BN, 0, none⟩ (.int .i64 x1)).setCell ⟨BN, 1, none⟩ (.int .i64 x2) = u := ⟨_, rfl⟩
            have hb : Below wv.heap.size u1 u2 := by rw [← hu]; exact ((Below.refl _ _).setCell (p := ⟨BN, 0, none⟩) BNN.out _).setCell (p := ⟨BN, 1, none⟩) BNN.out _
            replace KBN := zH ((KBN.out.set 0 (.int .i64 x1)).set 1 (.int .i64 x2))
            rw [hu] at KBN ⊢
            clear hu
            replace T := zH (T.out.trans hb)
            refine ⟨hb, ?_⟩
            clear hb
            refine WT_done (by kernel_rfl) ?_
            go_wp2_with fail
            go_meet
            case rel => exact ⟨BN, rfl, KBN, T⟩
          · unfold stepT
            go_wp2_with fail
            obtain ⟨u1, hwA⟩ : ∃ wA, wd.alloc (.cells #[.int .i64 0, .int .i64 0] 25) = wA := ⟨_, rfl⟩
            rw [hwA]
            have hb : Below wd.heap.size wd u1 := by subst hwA; exact bAlloc (bSelf _) _
            have KBN : Hid (Blk u1 wd.heap.size #[.int .i64 0, .int .i64 0]) := by subst hwA; exact Blk.new _ _ _
            clear hwA
            have BNN : Hid (wv.heap.size ≤ wd.heap.size) := zH T.out.size
            obtain ⟨BN, hBN⟩ : ∃ N, wd.heap.size = N := ⟨_, rfl⟩
            have hbd := zH (hb.mono T.out.size)
            replace T := zH (bThen T.out hb)
            clear hb
            rw [hBN] at KBN BNN  ⊢
            clear hBN
            refine ⟨hbd.out, ?_⟩
            clear hbd
            refine WT_one 15 rfl (by kernel_rfl) ?_
            unfold stepT
            go_wp2_with fail
            refine (HC1.out _).mono ?_
            rintro e w' ⟨rfl, rfl⟩
            go_wp2_with fail
            refine ⟨Below.refl _ _, ?_⟩
            refine WTq 16 ?_; apply Exists.intro; refine ⟨fun w1 hb1 => ?_, ?_⟩; (focus ((have hb1 := zH hb1; go_simp); (try (go_bits; try go_simp)); (try (rw [if_pos (by omega)]; try go_simp)); (first | done | (with_reducible rfl) | exact rfl)))
            simp only [Act.put, zzT, zzO, zzS]
            refine WT_one 18 rfl (by kernel_rfl) ?_
            unfold stepT
            obtain ⟨-, kx, fx⟩ := KBN.out
            go_wp2_with fail
            clear kx fx
            obtain ⟨u2, hu⟩ : ∃ u, (u1.setCell ⟨BN, 0, none⟩ (.int .i64 x1)).setCell ⟨BN, 1, none⟩ (.int .i64 x2) = u := ⟨_, rfl⟩
            have hb : Below wv.heap.size u1 u2 := by rw [← hu]; exact ((Below.refl _ _).setCell (p := ⟨BN, 0, none⟩) BNN.out _).setCell (p := ⟨BN, 1, none⟩) BNN.out _
            replace KBN := zH ((KBN.out.set 0 (.int .i64 x1)).set 1 (.int .i64 x2))
            rw [hu] at KBN ⊢
            clear hu
            replace T := zH (T.out.trans hb)
            refine ⟨hb, ?_⟩
            clear hb
            refine WT_done (by kernel_rfl) ?_
            go_wp2_with fail
            go_meet
            case rel => exact ⟨BN, rfl, KBN, T⟩
        · unfold stepT
          go_wp2_with fail
          obtain ⟨u1, hwA⟩ : ∃ wA, wd.alloc (.cells #[.int .i64 0, .int .i64 0] 25) = wA := ⟨_, rfl⟩
          rw [hwA]
          have hb : Below wd.heap.size wd u1 := by subst hwA; exact bAlloc (bSelf _) _
          have KBN : Hid (Blk u1 wd.heap.size #[.int .i64 0, .int .i64 0]) := by subst hwA; exact Blk.new _ _ _
          clear hwA
          have BNN : Hid (wv.heap.size ≤ wd.heap.size) := zH T.out.size
          obtain ⟨BN, hBN⟩ : ∃ N, wd.heap.size = N := ⟨_, rfl⟩
          have hbd := zH (hb.mono T.out.size)
          replace T := zH (bThen T.out hb)
          clear hb
          rw [hBN] at KBN BNN  ⊢
          clear hBN
          refine ⟨hbd.out, ?_⟩
          clear hbd
          refine WT_one 7 rfl (by kernel_rfl) ?_
          unfold stepT
          go_wp2_with fail
          refine (HF1.out _).mono ?_
          rintro e w' ⟨rfl, rfl⟩
          go_wp2_with fail
          refine ⟨Below.refl _ _, ?_⟩
          refine WT_one 15 rfl (by kernel_rfl) ?_
          unfold stepT
          go_wp2_with fail
          refine (HC1.out _).mono ?_
          rintro e w' ⟨rfl, rfl⟩
          go_wp2_with fail
          refine ⟨Below.refl _ _, ?_⟩
          refine WTq 16 ?_; apply Exists.intro; refine ⟨fun w1 hb1 => ?_, ?_⟩; (focus ((have hb1 := zH hb1; go_simp); (try (go_bits; try go_simp)); (try (rw [if_pos (by omega)]; try go_simp)); (first | done | (with_reducible rfl) | exact rfl)))
          simp only [Act.put, zzT, zzO, zzS]
          refine WT_one 18 rfl (by kernel_rfl) ?_
          unfold stepT
          obtain ⟨-, kx, fx⟩ := KBN.out
          go_wp2_with fail
          clear kx fx
          obtain ⟨u2, hu⟩ : ∃ u, (u1.setCell ⟨BN, 0, none⟩ (.int .i64 x1)).setCell ⟨BN, 1, none⟩ (.int .i64 x2) = u := ⟨_, rfl⟩
          have hb : Below wv.heap.size u1 u2 := by rw [← hu]; exact ((Below.refl _ _).setCell (p := ⟨BN, 0, none⟩) BNN.out _).setCell (p := ⟨BN, 1, none⟩) BNN.out _
          replace KBN := zH ((KBN.out.set 0 (.int .i64 x1)).set 1 (.int .i64 x2))
          rw [hu] at KBN ⊢
          clear hu
          replace T := zH (T.out.trans hb)
          refine ⟨hb, ?_⟩
          clear hb
          refine WT_done (by kernel_rfl) ?_
          go_wp2_with fail
          go_meet
          case rel => exact ⟨BN, rfl, KBN, T⟩
      obtain ⟨wz, hwz⟩ : ∃ wo, wo = wc := ⟨_, rfl⟩
      subst hwz
      obtain ⟨B9, rfl, K9, hb2⟩ := hcut
      replace hb2 := hb2.out
      replace HO := zH (owns_to HO.out hb2)
      replace HR0 := zH (bThen HR0.out hb2)
      clear hb2 HF1 HC1 C0 C1
      obtain ⟨-, k9, -⟩ := K9.out
      by_cases hx : x2 ≤ 50
      · have hx' : ¬ 50 < x2 := by omega
        clear HSK
        have HNN := zH (Blk.new wz #[.int .i64 x1, .int .i64 x2] 25).news
        have HROW := zH (HO.out.alloc (.cells #[.int .i64 x1, .int .i64 x2] 25))
        have hlo := zH HO.out.lt
        have hsw : w.heap.size ≤ wz.heap.size := HR0.out.size
        go_wp2_with (at_builtin; go_loud (refine wpList_app w.heap.size rtRg rfl (.tmp 35) (.tmp 37) rfl _ k _ rfl HROW.out ⟨wz.heap.size, 0, none⟩ 1 1 [.int .i64 x1, .int .i64 x2] rfl rfl (by simpa using HNN.out) (onesF [(x1, x2)]) (by unfold maxLen; omega) (by omega) (by simp; omega) ?_; intro v' w7 hown' hgrow _ hwhere; obtain ⟨va', vc', rfl⟩ := ownsRow_sl hown'; have HO7 := zH hown'; have HG7 := zH hgrow; clear hown' hgrow hwhere k9))
        have HRn : Hid (Below w.heap.size w w7) := zH (HR0.out.trans (((Below.refl _ _).alloc hsw _).grown HG7.out (by simp; omega) (fun k e => (hlo.out k e).1)))
        go_roundw
        case rel => exact ⟨k + 1, va', vc', rfl, by go_num, by omega, zH (fun j hj => by
            by_cases h : j = k
            · subst h; rw [HX2.out]; exact hx
            · exact hle.out j (by omega)), zH (by rw [HSU1.out, fcells_app]; exact HO7.out), HRn⟩
        case measure => simp [intOf]; omega
      · have hx' : 50 < x2 := by omega
        obtain rfl : so = none := HSK.out hx'
        go_wp2_with fail
        refine bodyPost_ret (results_tmp2 rfl _ _ _) rfl ?_
        exact ⟨none, 0, rfl, Nat.le_refl _, .inl rfl, HR0.out⟩
    · obtain rfl : n = k := by omega
      obtain rfl : so = some (c.map (scR pc)) := HT.out hle.out
      obtain ⟨a', cap', e, hcp, hrd, hfr⟩ := Reads.of_row (f := fracs (sclT pc c n)) HO.out (fun i hi => fcells_get _ i (by rw [HLN.out n (Nat.le_refl _)]; exact hi))
      cases e
      rw [HE.out] at hrd
      have HRD := zH hrd
      have HLL : Hid ((c.map (scR pc)).length = n) := zH (by rw [← HE.out]; exact HLN.out n (Nat.le_refl _))
      clear hrd hfr HO
      go_wp2_with fail
      refine bodyPost_ret (results_tmp2 rfl _ _ _) rfl ?_
      refine ⟨va, vc, ?_, ?_, ?_, HR0.out⟩
      · show _ = Ending.returned (.tuple #[.slice va (c.map (scR pc)).length vc, .bool true])
        rw [HLL.out]; rfl
      · show (c.map (scR pc)).length ≤ vc
        rw [HLL.out]; exact hcp
      · show Reads _ va ((c.map (scR pc)).length * 2) (fracs (c.map (scR pc)))
        rw [HLL.out]; exact HRD.out
end
section
open Go.RowKit
structure CsI (L : List OSt) (W2 : World) (k : Nat) (W : World) : Prop where
  be : Below W2.heap.size W2 W
  bx : Blk W (W2.heap.size + 1) #[.map (some W2.heap.size)]
  st : SetW W W2.heap.size k (inS (L.take k))
theorem CsI.to {L : List OSt} {W2 : World} {k : Nat} {W W' : World} (h : CsI L W2 k W) (hb : Below W.heap.size W W') : CsI L W2 k W' := ⟨bThen h.be hb, h.bx.to hb, h.st.to hb⟩
theorem sg_take {l : List OSt} {k : Nat} (h : k < l.length) : l.take (k + 1) = l.take k ++ [sg l k] := by
  rw [List.take_succ_eq_append_getElem h]
  unfold sg
  rw [List.getD_eq_getElem?_getD, List.getElem?_eq_getElem h]
  rfl
end
end Go.Proofs.YtjfedpblkejmkaaGreat
