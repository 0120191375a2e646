/-
  Texts of this claim, in their build order: W7.
-/
import Derived.Test.YtjfedpblkejmkaaGreatCla8
import Derived.Test.YtjfedpblkejmkaaGreatCla0

namespace Go.Proofs.YtjfedpblkejmkaaGreat
section
open Go.RowKit

set_option maxHeartbeats 1600000 in
set_option maxRecDepth 100000 in
theorem subDigits_any (A B : List Int) (a b : Option Addr) (ca cb : Nat) (w : World) (hA : Dig A) (hB : Dig B) (hlA : A.length ≤ 400) (hlB : B.length ≤ A.length) (hle : val B ≤ val A) (hra : Reads w a A.length (ints A)) (hrb : Reads w b B.length (ints B)) :
    Calls Tryz.prog 180 #[.slice a A.length ca, .slice b B.length cb] w fun e w1 => DPost (fun out => out = digs (val A - val B).toNat) w e w1 := by
  have HDA := zH hA
  have HDB := zH hB
  have HRA := zH hra
  have HRB := zH hrb
  have HLE := zH hle
  clear hA hB hra hrb hle
  go_enter Tryz.func180, Tryz.ntmps180
  go_wp2_with fail
  go_loopw [5, 6, 7] (fun v cv iv wr => ∃ (i : Nat) (c : Int) (out : List Int), iv = .int .i64 i ∧ cv = .int .i64 c ∧ 0 ≤ c ∧ c ≤ 1 ∧ i ≤ A.length ∧ Hid (out.length = i) ∧ Hid (Dig out) ∧ Hid (val out = val (A.take i) - val (B.take i) + 1000000000 ^ i * c) ∧
      Hid (wr.ownsRow w.heap.size 3 1 v out.length (out.map fun z => Value.int .i64 z)) ∧ Hid (Below w.heap.size w wr)) (fun _ _ iv _ => A.length - (intOf iv).toNat)
  case atStart => exact ⟨0, 0, [], rfl, rfl, by omega, by omega, by omega, zH rfl, zH Dig.nil, zH (by simp [val]), zH (World.ownsRow_nil _ _ _ _), zH (bSelf w)⟩
  case round =>
    obtain ⟨i, c, out, rfl, rfl, hc0, hc1, hi, hol, hod, hov, hrow, hbel⟩ := hrel
    replace HRA := zH (HRA.out.to hbel.out)
    replace HRB := zH (HRB.out.to hbel.out)
    have hol' := hol.out
    by_cases hlt : i < A.length
    · have hltI : decide ((i : Int) < (A.length : Int)) = true := decide_eq_true (by omega)
      have hda := HDA.out.at i
      have hdb := HDB.out.at i
      have HSA := zH (val_take_more A i)
      have HSB := zH (val_take_more B i)
      have HCB := zH (fun W h => digit_any B b cb i W h)
      obtain ⟨b1, o1, rfl, hb1', hc1'⟩ := HRA.out.at (k := i) hlt
      have c1 : Hid (wr.cell? ⟨b1, o1 + i, none⟩ = some (.int .i64 (gi A i))) := zH (hc1' i hlt)
      have hs1 : b1 < wr.heap.size := hb1'
      clear hc1' hb1'
      obtain ⟨x, hx⟩ : ∃ x, gi A i = x := ⟨_, rfl⟩
      obtain ⟨y, hy⟩ : ∃ y, gi B i = y := ⟨_, rfl⟩
      rw [hx] at hda HSA c1
      rw [hy] at hdb HSB HCB
      clear hx hy
      obtain ⟨x0, x1⟩ := hda
      obtain ⟨y0, y1⟩ := hdb
      go_upto_region 6 with (fail)
      clear hltI
      refine wp_region_quiet_all (fun w' => Below (World.heap wr).size (wr) w') (by kernel_rfl) (by kernel_rfl) (Below.refl _ _).drew ?_
      refine WQ.out ?_
      repeat (first | (refine WQ_no (by rfl) ?_; (simp only [Act.put, zzT, zzO, zzS])) | (refine WQ_yes (by rfl) ?_; apply Exists.intro; refine ⟨fun w1 hb1 => ?_, ?_⟩; (focus (((have k1 := (hb1.cell (p := ⟨b1, o1 + i, none⟩) hs1).trans c1.out); have hb1 := zH hb1; go_simp); (try (go_bits; try go_simp)); (try (rw [if_pos (by omega)]; try go_simp)); (first | done | ((go_at_call 195; refine (HCB.out _ (HRB.out.to hb1.out)).mono ?_; rintro e w' ⟨rfl, rfl⟩; exact ⟨rfl, hb1.out⟩)) | (with_reducible rfl) | exact rfl))); (simp only [Act.put, zzT, zzO, zzS])))
      refine WQ_nil ?_
      intro w1 hb1
      have hbel2 := zH (bThen hbel.out hb1)
      have hrow2 := zH (owns_to hrow.out hb1)
      have hwr : w.heap.size ≤ w1.heap.size := hbel2.out.size
      clear hb1 hbel hrow c1 hs1
      obtain ⟨wq, hwq⟩ : ∃ wq, wq = w1 := ⟨_, rfl⟩
      subst hwq
      obtain ⟨t, ht⟩ : ∃ t, x - y - c = t := ⟨_, rfl⟩
      rw [ht]
      have ht1 : -1000000000 ≤ t ∧ t ≤ 1000000000 := by omega
      obtain ⟨ht1, ht2⟩ := ht1
      obtain ⟨d, q, hdq⟩ : ∃ d q : Int, t = d - 1000000000 * q ∧ 0 ≤ d ∧ d < 1000000000 ∧ ((t < 0 ∧ q = 1 ∧ d = t + 1000000000) ∨ (0 ≤ t ∧ q = 0 ∧ d = t)) := by
        by_cases h : t < 0
        · exact ⟨t + 1000000000, 1, by omega, by omega, by omega, .inl ⟨h, rfl, rfl⟩⟩
        · exact ⟨t, 0, by omega, by omega, by omega, .inr ⟨by omega, rfl, rfl⟩⟩
      obtain ⟨e, d0, d1, hcase⟩ := hdq
      have HE := zH e
      have HT := zH ht
      clear e ht
      go_upto_if 26 with (fail)
      go_cut [6, 8] (fun s6 s8 wd => s6 = .int .i64 q ∧ s8 = .int .i64 d ∧ wq = wd)
      case first =>
        rcases hcase with ⟨h, rfl, rfl⟩ | ⟨h, rfl, rfl⟩
        · have h1 : decide (t < 0) = true := decide_eq_true h
          go_wp2_with fail
          go_meet
          case rel => exact ⟨rfl, rfl, rfl⟩
        · have h1 : decide (d < 0) = false := decide_eq_false (by omega)
          go_wp2_with fail
          go_meet
          case rel => exact ⟨rfl, rfl, rfl⟩
      case rest =>
        obtain ⟨rfl, rfl, rfl⟩ := hcut
        have hq01 : 0 ≤ q ∧ q ≤ 1 := by rcases hcase with ⟨-, h, -⟩ | ⟨-, h, -⟩ <;> omega
        obtain ⟨q0, q1⟩ := hq01
        clear hcase
        have HROW := zH (hrow2.out.alloc (.cells #[.int .i64 d] 3))
        have HNN := zH (Blk.new wq #[.int .i64 d] 3).news
        have hlo := zH hrow2.out.lt
        go_wp2_with (at_builtin; refine wpList_app w.heap.size rtInt rfl (.tmp 29) (.tmp 31) rfl _ _ _ rfl HROW.out ⟨wq.heap.size, 0, none⟩ 1 1 [.int .i64 d] rfl rfl HNN.out (ones [d]) (by unfold maxLen; omega) (by omega) (by simp; omega) ?_; intro v' w4 hown' hgrow _ _; have HO := zH hown'; have HGR := zH hgrow; clear hown' hgrow)
        go_roundw
        case rel =>
          refine ⟨i + 1, q, out ++ [d], by go_num, rfl, q0, q1, by omega, zH (by simp; omega), zH (hod.out.append (Dig.cons d0 d1 Dig.nil)), zH ?_, zH ?_, zH ?_⟩
          · have e0 : x - y - c = d - 1000000000 * q := HT.out.trans HE.out
            have e1 := congrArg (fun t => (1000000000 : Int) ^ i * t) e0
            simp only [Int.mul_sub] at e1
            have e2 : (1000000000 : Int) ^ i * (1000000000 * q) = 1000000000 ^ (i + 1) * q := by rw [Int.pow_succ, Int.mul_assoc]
            rw [e2] at e1
            have e3 := hov.out
            rw [val_snoc, hol', HSA.out, HSB.out]
            omega
          · rw [List.length_append, List.map_append]
            exact HO.out
          · exact (hbel2.out.alloc hwr _).grown HGR.out (by simp; omega) (fun k e => (hlo.out k e).1)
        case measure => simp [intOf]; omega
    · have hii : i = A.length := by omega
      have hltI : decide ((i : Int) < (A.length : Int)) = false := decide_eq_false (by omega)
      obtain ⟨a1, cap1, rfl, hcp, hrd, hfr⟩ := Reads.of_owns' (zs := out) hrow.out
      have hv : val out = val A - val B := by
        have e := hov.out
        rw [hii, List.take_length, val_take_all hlB] at e
        have h1 := val_lt hod.out
        rw [hol', hii] at h1
        have h2 := HLE.out
        rcases (by omega : c = 0 ∨ c = 1) with rfl | rfl
        · rw [e]; simp
        · rw [Int.mul_one] at e; omega
      have HTR := zH (fun W h => trimmed_any out a1 cap1 W hod.out (by omega) hcp h)
      have HTK : Hid (∀ W, Reads W a1 out.length (ints out) → Reads W a1 (digs (val out).toNat).length (ints (digs (val out).toNat))) := zH (fun W h => by
        obtain ⟨m, hm⟩ := trim_ex hod.out (n := (val out).toNat) (by have := val_nonneg hod.out; omega)
        rw [hm]; exact Reads.takeW h m)
      have hml : (digs (val out).toNat).length ≤ cap1 := by
        obtain ⟨m, hm⟩ := trim_ex hod.out (n := (val out).toNat) (by have := val_nonneg hod.out; omega)
        rw [hm, List.length_take]; omega
      have HV := zH hv
      have HRD := zH hrd
      have HFR := zH hfr
      obtain ⟨D, hD⟩ : ∃ D, digs (val out).toNat = D := ⟨_, rfl⟩
      rw [hD] at HTR HTK hml
      have HD := zH hD
      clear hrow hrd hfr hv hD hii hol'
      go_wp2_with fail
      refine (HTR.out _ HRD.out).mono ?_
      rintro e w2 ⟨rfl, hb⟩
      have HB2 := zH (bThen hbel.out hb)
      have HRD2 := zH (HRD.out.to hb)
      clear hb
      go_wp2_with fail
      go_ret
      exact ⟨D, a1, cap1, rfl, by rw [← HD.out, HV.out], hml, HTK.out _ HRD2.out, HB2.out, HFR.out⟩
end
end Go.Proofs.YtjfedpblkejmkaaGreat
