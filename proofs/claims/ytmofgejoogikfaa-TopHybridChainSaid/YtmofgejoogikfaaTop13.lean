/-
  Texts of this claim, in their build order: V1 X1.
-/
import Derived.Test.YtmofgejoogikfaaTop12
import Derived.Shelf.Bits.Mul64
import Derived.Shelf.Spec.BitsCarry
import Derived.Test.YtmofgejoogikfaaTop10

/-
  Products that add up to 0: isZero of package hybrid, over math/bits.
-/
namespace Go.Proofs.Ytmofgejoogikfaa
open Go.RowKit Go.Lib

set_option maxHeartbeats 1000000 in
theorem Mul64_any (x y : Nat) (hx : x < 18446744073709551616) (hy : y < 18446744073709551616) (w : World) :
    Calls Try.prog 135 #[.int .u64 x, .int .u64 y] w fun e w' => e = .returned (.tuple #[.int .u64 ((x * y / 18446744073709551616 : Nat) : Int), .int .u64 ((x * y % 18446744073709551616 : Nat) : Int)]) ∧ w = w' := by
  obtain ⟨bd, bt, bw, hhi⟩ := Lib.mul64_hi x y hx hy
  have ba := Lib.half_mul_le (a := x / 4294967296) (b := y / 4294967296) (by omega) (by omega)
  have bb := Lib.half_mul_le (a := x / 4294967296) (b := y % 4294967296) (by omega) (by omega)
  have bc := Lib.half_mul_le (a := x % 4294967296) (b := y / 4294967296) (by omega) (by omega)
  have ba' : x / 4294967296 * (y / 4294967296) < 18446744073709551616 := by omega
  have bb' : x / 4294967296 * (y % 4294967296) < 18446744073709551616 := by omega
  have bc' : x % 4294967296 * (y / 4294967296) < 18446744073709551616 := by omega
  have bh1 : x / 4294967296 * (y / 4294967296) + (x / 4294967296 * (y % 4294967296) + x % 4294967296 * (y % 4294967296) / 4294967296) / 4294967296 < 18446744073709551616 := by omega
  have bh : x / 4294967296 * (y / 4294967296) + (x / 4294967296 * (y % 4294967296) + x % 4294967296 * (y % 4294967296) / 4294967296) / 4294967296 + ((x / 4294967296 * (y % 4294967296) + x % 4294967296 * (y % 4294967296) / 4294967296) % 4294967296 + x % 4294967296 * (y / 4294967296)) / 4294967296 < 18446744073709551616 := by omega
  go_enter Try.func135, Try.ntmps135
  go_wp2
  simp only [Mul64.maskN x hx, Mul64.maskN y hy, Mul64.divN, Mul64.mulN, Mul64.addN, Mul64.wrapN _ bd, Mul64.wrapN _ bb', Mul64.wrapN _ bt, Mul64.maskN _ bt, Mul64.wrapN _ bc', Mul64.wrapN _ bw, Mul64.wrapN _ ba', Mul64.wrapN _ bh1, Mul64.wrapN _ bh, Mul64.wrapM (x * y)]
  rw [hhi]
  go_ret2
  exact ⟨rfl, rfl⟩

def brw (x y : Nat) : Nat := if x < y then 1 else 0
theorem run_Sub64 (x y : Nat) (w : World) :
    (callFunc 136 #[.int .u64 x, .int .u64 y, .int .u64 0]).run Try.prog w = .ok (.value (.tuple #[.int .u64 (((x + 18446744073709551616 - y) % 18446744073709551616 : Nat) : Int), .int .u64 (brw x y : Nat)])) w := by
  rw [run_callFunc_extern Try.func136 (by kernel_rfl) (by kernel_rfl) (by kernel_rfl) (e := sub64Entry) (by kernel_rfl), show (0 : Int) = ((0 : Nat) : Int) from rfl, run_sub64 x y 0 (by omega) w]
  rfl
theorem run_Add64 (x y : Nat) (w : World) :
    (callFunc 137 #[.int .u64 x, .int .u64 y, .int .u64 0]).run Try.prog w = .ok (.value (.tuple #[.int .u64 (((x + y) % 18446744073709551616 : Nat) : Int), .int .u64 (((x + y) / 18446744073709551616 : Nat) : Int)])) w := by
  rw [run_callFunc_extern Try.func137 (by kernel_rfl) (by kernel_rfl) (by kernel_rfl) (e := add64Entry) (by kernel_rfl), run_add64 x y 0 (by omega) (by omega) (by omega) (by omega)]
  simp only [Result.andThen]
  congr 5 <;> omega

/-- What products add up to. -/
def prodTo (ps : List (Int × Int)) : Nat → Int
  | 0 => 0
  | k + 1 => prodTo ps k + (fg ps k).1 * (fg ps k).2

theorem zpos {hi lo h l : Nat} {S : Int} (hv : ((hi * 18446744073709551616 + lo : Nat) : Int) = S % 340282366920938463463374607431768211456) :
    ((((hi + (h + (lo + l) / 18446744073709551616) % 18446744073709551616) % 18446744073709551616) * 18446744073709551616 + (lo + l) % 18446744073709551616 : Nat) : Int) = (S + ((h * 18446744073709551616 + l : Nat) : Int)) % 340282366920938463463374607431768211456 := by
  obtain ⟨c, hc⟩ : ∃ c, (lo + l) / 18446744073709551616 = c := ⟨_, rfl⟩
  obtain ⟨t, ht⟩ : ∃ t, (lo + l) % 18446744073709551616 = t := ⟨_, rfl⟩
  have h1 : lo + l = 18446744073709551616 * c + t := by omega
  have h2 : t < 18446744073709551616 := by omega
  rw [hc, ht]
  clear hc ht
  obtain ⟨d, hd⟩ : ∃ d, (h + c) / 18446744073709551616 = d := ⟨_, rfl⟩
  obtain ⟨e, he⟩ : ∃ e, (h + c) % 18446744073709551616 = e := ⟨_, rfl⟩
  have h3 : h + c = 18446744073709551616 * d + e := by omega
  rw [he]
  clear hd he
  obtain ⟨d2, hd⟩ : ∃ d, (hi + e) / 18446744073709551616 = d := ⟨_, rfl⟩
  obtain ⟨e2, he⟩ : ∃ f, (hi + e) % 18446744073709551616 = f := ⟨_, rfl⟩
  have h4 : hi + e = 18446744073709551616 * d2 + e2 := by omega
  have h5 : e2 < 18446744073709551616 := by omega
  rw [he]
  clear hd he
  rw [← Int.emod_add_emod, ← hv]
  have h6 : ((hi * 18446744073709551616 + lo : Nat) : Int) + ((h * 18446744073709551616 + l : Nat) : Int) = ((e2 * 18446744073709551616 + t : Nat) : Int) + 340282366920938463463374607431768211456 * ((d + d2 : Nat) : Int) := by omega
  rw [h6, Int.add_mul_emod_self_left]
  exact (Int.emod_eq_of_lt (by omega) (by omega)).symm
set_option maxRecDepth 100000 in
theorem zneg {hi lo h l : Nat} {S : Int} (h2 : lo < 18446744073709551616) (h3 : l < 18446744073709551616)
    (hv : ((hi * 18446744073709551616 + lo : Nat) : Int) = S % 340282366920938463463374607431768211456) :
    ((hi : Int) - ((h : Int) + (brw lo l : Nat)) % 18446744073709551616) % 18446744073709551616 * 18446744073709551616 + ((lo + 18446744073709551616 - l) % 18446744073709551616 : Nat) = (S - ((h * 18446744073709551616 + l : Nat) : Int)) % 340282366920938463463374607431768211456 := by
  unfold brw
  split <;> omega
set_option maxHeartbeats 1600000 in
set_option maxRecDepth 100000 in
theorem isZero_any (ps : List (Int × Int)) (a : Option Addr) (cap : Nat) (w : World) (hlen : ps.length ≤ 1000) (hb : ∀ k, k < ps.length → (fg ps k).1.natAbs ≤ 4000000000000000000 ∧ (fg ps k).2.natAbs ≤ 4000000000000000000)
    (hS : (prodTo ps ps.length).natAbs < 170141183460469231731687303715884105728) (hr : Reads w a (ps.length * 2) (fracs ps)) :
    Calls Try.prog 113 #[.slice a ps.length cap] w fun e w' => e = .returned (.bool (decide (prodTo ps ps.length = 0))) ∧ Below w.heap.size w w' := by
  have HR := Lib.hid hr
  have HBD := Lib.hid hb
  have HSB := Lib.hid hS
  have HM := Lib.hid Mul64_any
  clear hr hb hS
  go_enter Try.func113, Try.ntmps113
  go_wp2_with fail
  go_loopw [3, 4, 12] (fun hv lv iv wr => ∃ (k hi lo : Nat), k ≤ ps.length ∧ iv = .int .i64 k ∧ hv = .int .u64 hi ∧ lv = .int .u64 lo ∧ hi < 18446744073709551616 ∧ lo < 18446744073709551616 ∧ Hid (((hi * 18446744073709551616 + lo : Nat) : Int) = prodTo ps k % 340282366920938463463374607431768211456) ∧ Hid (Below w.heap.size w wr)) (fun _ _ iv _ => ps.length - (intOf iv).toNat)
  case atStart => exact ⟨0, 0, 0, Nat.zero_le _, rfl, rfl, rfl, by omega, by omega, Lib.hid rfl, Lib.hid (bSelf w)⟩
  case round =>
    obtain ⟨k, hi, lo, hk, rfl, rfl, rfl, hhi, hlo, hinv, hbel⟩ := hrel
    by_cases hlt : k < ps.length
    · have hltI : decide ((k : Int) < (ps.length : Int)) = true := decide_eq_true (by omega)
      obtain ⟨b, off, rfl, hb', hc'⟩ := (HR.out.to hbel.out).at (k := k * 2) (by omega)
      obtain ⟨b0, b1⟩ := HBD.out k hlt
      have HPR : Hid (prodTo ps (k + 1) = prodTo ps k + (fg ps k).1 * (fg ps k).2) := Lib.hid rfl
      obtain ⟨x, y, hxy⟩ : ∃ x y, fg ps k = (x, y) := ⟨_, _, rfl⟩
      have kx : wr.cell? ⟨b, off + k * 2, none⟩ = some (.int .i64 x) := by rw [hc' _ (by omega), fracs0, hxy]
      have ky : wr.cell? ⟨b, off + k * 2 + 1, none⟩ = some (.int .i64 y) := by rw [Nat.add_assoc, hc' _ (by omega), fracs1, hxy]
      rw [hxy] at b0 b1 HPR
      dsimp only at b0 b1 HPR
      clear hc' hxy
      rcases Int.lt_or_le x 0 with hx | hx <;> rcases Int.lt_or_le y 0 with hy | hy
      · obtain ⟨X, rfl⟩ : ∃ X : Nat, x = -(X : Int) := ⟨x.natAbs, by omega⟩
        obtain ⟨Y, rfl⟩ : ∃ X : Nat, y = -(X : Int) := ⟨y.natAbs, by omega⟩
        have X0 : X ≤ 4000000000000000000 := by omega
        have Y0 : Y ≤ 4000000000000000000 := by omega
        have hX0 : 0 < X := by omega
        have mx : -(X : Int) < X := by omega
        have hY0 : 0 < Y := by omega
        have my : -(Y : Int) < Y := by omega
        have HPQ : Hid (-(X : Int) * -(Y : Int) = ((X * Y : Nat) : Int)) := Lib.hid (by rw [Int.natCast_mul] <;> grind)
        have hpp : X * Y ≤ 4000000000000000000 * 4000000000000000000 := Nat.mul_le_mul X0 Y0
        clear hx hy b0 b1
        go_wp2_with fail
        refine (HM.out X Y (by omega) (by omega) _).mono ?_
        rintro e w5 ⟨rfl, rfl⟩
        obtain ⟨h, hh⟩ : ∃ h, X * Y / 18446744073709551616 = h := ⟨_, rfl⟩
        obtain ⟨l, hl⟩ : ∃ h, X * Y % 18446744073709551616 = h := ⟨_, rfl⟩
        have HHL : Hid (X * Y = h * 18446744073709551616 + l) := Lib.hid (by omega)
        have hl1 : l < 18446744073709551616 := by omega
        have hh1 : h < 18446744073709551616 := by omega
        rw [hh, hl]
        clear hh hl hpp
        go_wp2_with (simp only [run_Add64])
        go_roundw
        case rel =>
          refine ⟨k + 1, (hi + (h + (lo + l) / 18446744073709551616) % 18446744073709551616) % 18446744073709551616, (lo + l) % 18446744073709551616, by omega, by go_num, ?_, ?_, by omega, by omega, Lib.hid ?_, Lib.hid (bAlloc hbel.out _)⟩
          · rw [IntKind.wrap_u64, IntKind.wrap_u64]; congr 1 <;> omega
          · congr 1
          · rw [HPR.out, HPQ.out, HHL.out]; exact zpos hinv.out
        case measure => simp [intOf]; omega
      · obtain ⟨X, rfl⟩ : ∃ X : Nat, x = -(X : Int) := ⟨x.natAbs, by omega⟩
        obtain ⟨Y, rfl⟩ : ∃ X : Nat, y = (X : Int) := ⟨y.natAbs, by omega⟩
        have X0 : X ≤ 4000000000000000000 := by omega
        have Y0 : Y ≤ 4000000000000000000 := by omega
        have hX0 : 0 < X := by omega
        have mx : -(X : Int) < X := by omega
        have my : ¬ (Y : Int) < -Y := by omega
        have HPQ : Hid (-(X : Int) * (Y : Int) = -((X * Y : Nat) : Int)) := Lib.hid (by rw [Int.natCast_mul] <;> grind)
        have hpp : X * Y ≤ 4000000000000000000 * 4000000000000000000 := Nat.mul_le_mul X0 Y0
        clear hx hy b0 b1
        go_wp2_with fail
        refine (HM.out X Y (by omega) (by omega) _).mono ?_
        rintro e w5 ⟨rfl, rfl⟩
        obtain ⟨h, hh⟩ : ∃ h, X * Y / 18446744073709551616 = h := ⟨_, rfl⟩
        obtain ⟨l, hl⟩ : ∃ h, X * Y % 18446744073709551616 = h := ⟨_, rfl⟩
        have HHL : Hid (X * Y = h * 18446744073709551616 + l) := Lib.hid (by omega)
        have hl1 : l < 18446744073709551616 := by omega
        have hh1 : h < 18446744073709551616 := by omega
        rw [hh, hl]
        clear hh hl hpp
        go_wp2_with (simp only [run_Sub64])
        go_roundw
        case rel =>
          refine ⟨k + 1, (((hi : Int) - ((h : Int) + (brw lo l : Nat)) % 18446744073709551616) % 18446744073709551616).toNat, (lo + 18446744073709551616 - l) % 18446744073709551616, by omega, by go_num, ?_, ?_, by omega, by omega, Lib.hid ?_, Lib.hid (bAlloc hbel.out _)⟩
          · rw [IntKind.wrap_u64, IntKind.wrap_u64]; congr 1 <;> omega
          · congr 1; try omega
          · rw [HPR.out, HPQ.out, HHL.out, ← Int.sub_eq_add_neg, ← zneg hlo hl1 hinv.out (h := h)]
            omega
        case measure => simp [intOf]; omega
      · obtain ⟨X, rfl⟩ : ∃ X : Nat, x = (X : Int) := ⟨x.natAbs, by omega⟩
        obtain ⟨Y, rfl⟩ : ∃ X : Nat, y = -(X : Int) := ⟨y.natAbs, by omega⟩
        have X0 : X ≤ 4000000000000000000 := by omega
        have Y0 : Y ≤ 4000000000000000000 := by omega
        have mx : ¬ (X : Int) < -X := by omega
        have hY0 : 0 < Y := by omega
        have my : -(Y : Int) < Y := by omega
        have HPQ : Hid ((X : Int) * -(Y : Int) = -((X * Y : Nat) : Int)) := Lib.hid (by rw [Int.natCast_mul] <;> grind)
        have hpp : X * Y ≤ 4000000000000000000 * 4000000000000000000 := Nat.mul_le_mul X0 Y0
        clear hx hy b0 b1
        go_wp2_with fail
        refine (HM.out X Y (by omega) (by omega) _).mono ?_
        rintro e w5 ⟨rfl, rfl⟩
        obtain ⟨h, hh⟩ : ∃ h, X * Y / 18446744073709551616 = h := ⟨_, rfl⟩
        obtain ⟨l, hl⟩ : ∃ h, X * Y % 18446744073709551616 = h := ⟨_, rfl⟩
        have HHL : Hid (X * Y = h * 18446744073709551616 + l) := Lib.hid (by omega)
        have hl1 : l < 18446744073709551616 := by omega
        have hh1 : h < 18446744073709551616 := by omega
        rw [hh, hl]
        clear hh hl hpp
        go_wp2_with (simp only [run_Sub64])
        go_roundw
        case rel =>
          refine ⟨k + 1, (((hi : Int) - ((h : Int) + (brw lo l : Nat)) % 18446744073709551616) % 18446744073709551616).toNat, (lo + 18446744073709551616 - l) % 18446744073709551616, by omega, by go_num, ?_, ?_, by omega, by omega, Lib.hid ?_, Lib.hid (bAlloc hbel.out _)⟩
          · rw [IntKind.wrap_u64, IntKind.wrap_u64]; congr 1 <;> omega
          · congr 1; try omega
          · rw [HPR.out, HPQ.out, HHL.out, ← Int.sub_eq_add_neg, ← zneg hlo hl1 hinv.out (h := h)]
            omega
        case measure => simp [intOf]; omega
      · obtain ⟨X, rfl⟩ : ∃ X : Nat, x = (X : Int) := ⟨x.natAbs, by omega⟩
        obtain ⟨Y, rfl⟩ : ∃ X : Nat, y = (X : Int) := ⟨y.natAbs, by omega⟩
        have X0 : X ≤ 4000000000000000000 := by omega
        have Y0 : Y ≤ 4000000000000000000 := by omega
        have mx : ¬ (X : Int) < -X := by omega
        have my : ¬ (Y : Int) < -Y := by omega
        have HPQ : Hid ((X : Int) * (Y : Int) = ((X * Y : Nat) : Int)) := Lib.hid (by rw [Int.natCast_mul] <;> grind)
        have hpp : X * Y ≤ 4000000000000000000 * 4000000000000000000 := Nat.mul_le_mul X0 Y0
        clear hx hy b0 b1
        go_wp2_with fail
        refine (HM.out X Y (by omega) (by omega) _).mono ?_
        rintro e w5 ⟨rfl, rfl⟩
        obtain ⟨h, hh⟩ : ∃ h, X * Y / 18446744073709551616 = h := ⟨_, rfl⟩
        obtain ⟨l, hl⟩ : ∃ h, X * Y % 18446744073709551616 = h := ⟨_, rfl⟩
        have HHL : Hid (X * Y = h * 18446744073709551616 + l) := Lib.hid (by omega)
        have hl1 : l < 18446744073709551616 := by omega
        have hh1 : h < 18446744073709551616 := by omega
        rw [hh, hl]
        clear hh hl hpp
        go_wp2_with (simp only [run_Add64])
        go_roundw
        case rel =>
          refine ⟨k + 1, (hi + (h + (lo + l) / 18446744073709551616) % 18446744073709551616) % 18446744073709551616, (lo + l) % 18446744073709551616, by omega, by go_num, ?_, ?_, by omega, by omega, Lib.hid ?_, Lib.hid (bAlloc hbel.out _)⟩
          · rw [IntKind.wrap_u64, IntKind.wrap_u64]; congr 1 <;> omega
          · congr 1
          · rw [HPR.out, HPQ.out, HHL.out]; exact zpos hinv.out
        case measure => simp [intOf]; omega
    · have hltI : decide ((k : Int) < (ps.length : Int)) = false := decide_eq_false (by omega)
      have hke : k = ps.length := by omega
      have HFIN : Hid (prodTo ps ps.length = 0 ↔ hi = 0 ∧ lo = 0) := Lib.hid (by
        have h1 := hinv.out
        have h2 := HSB.out
        rw [hke] at h1
        generalize prodTo ps ps.length = S at *
        constructor
        · intro h
          subst h
          have : ((hi * 18446744073709551616 + lo : Nat) : Int) = 0 := by rw [h1]; rfl
          omega
        · rintro ⟨rfl, rfl⟩
          have h3 : S % 340282366920938463463374607431768211456 = 0 := by rw [← h1]; rfl
          have h4 := Int.mul_ediv_add_emod S 340282366920938463463374607431768211456
          rw [h3] at h4
          generalize S / 340282366920938463463374607431768211456 = q at *
          omega)
      clear hke hinv
      by_cases h0 : hi = 0
      · subst h0
        by_cases h1 : lo = 0
        · subst h1
          go_wp2_with fail
          go_ret
          exact ⟨ret_bool (by rw [decide_eq_true (HFIN.out.2 (by simp))]), hbel.out⟩
        · have h1' : ((lo : Int) == 0) = false := by rw [beq_eq_false_iff_ne]; omega
          have H1 := Lib.hid h1
          go_wp2_with fail
          go_ret
          exact ⟨ret_bool (by rw [decide_eq_false (fun h => H1.out (HFIN.out.1 h).2)]), hbel.out⟩
      · have h1' : ((hi : Int) == 0) = false := by rw [beq_eq_false_iff_ne]; omega
        have H1 := Lib.hid h0
        go_wp2_with fail
        go_ret
        exact ⟨ret_bool (by rw [decide_eq_false (fun h => H1.out (HFIN.out.1 h).1)]), hbel.out⟩

end Go.Proofs.Ytmofgejoogikfaa

/-
  Contracts of the base: Gcd, Lowest.
-/
namespace Go.Proofs.Ytmofgejoogikfaa
open Go.RowKit

set_option maxHeartbeats 800000 in
set_option maxRecDepth 100000 in
theorem bGcd_any (x y : Int) (w : World) (hx : x.natAbs ≤ 1000000000000000) (hy : y.natAbs ≤ 1000000000000000) :
    Calls Try.prog 60 #[.int .i64 x, .int .i64 y] w fun e w' => e = .returned (.int .i64 (Int.gcd x y : Nat)) ∧ Below w.heap.size w w' := by
  go_enter Try.func60, Try.ntmps60
  go_wp2_with fail
  go_loopw [0, 1] (fun p q wr => ∃ x' y' : Int, p = .int .i64 x' ∧ q = .int .i64 y' ∧ Hid (Int.gcd x' y' = Int.gcd x y) ∧ x'.natAbs ≤ 1000000000000000 ∧ y'.natAbs ≤ 1000000000000000 ∧ Hid (Below w.heap.size w wr)) (fun _ q _ => (intOf q).natAbs)
  case atStart => exact ⟨x, y, rfl, rfl, Lib.hid rfl, hx, hy, Lib.hid (bSelf w)⟩
  case round =>
    obtain ⟨x', y', rfl, rfl, hg, hx', hy', hb⟩ := hrel
    by_cases h0 : y' = 0
    · subst h0
      go_wp2_with (go_at_call 37; refine (Size_any _ _ (by omega) (by omega)).mono ?_; rintro e w' ⟨rfl, rfl⟩)
      go_ret
      refine ⟨ret_int ?_, hb.out⟩
      rw [← hg.out]
      simp only [Int.gcd_zero_right]
      unfold sizeI
      omega
    · have h0' : (y' == 0) = false := by simpa using h0
      go_wp2_with fail
      refine wp_region_quiet_all (fun w' => Below (World.heap wr).size (wr) w') (by kernel_rfl) (by kernel_rfl) (Below.refl _ _).drew ?_
      refine WQ.out ?_
      repeat (first | (refine WQ_no (by rfl) ?_; (simp only [Act.put, List.setIfInBounds_toArray, List.set_cons_zero, List.set_cons_succ])) | (refine WQ_yes (by rfl) ?_; apply Exists.intro; refine ⟨fun w1 hb1 => ?_, ?_⟩; (focus ((skip; have hb1 := Lib.hid hb1; go_simp); (try (go_bits; try go_simp)); (try (rw [if_pos (by omega)]; try go_simp)); (first | done | (fail) | (with_reducible rfl) | exact rfl))); (simp only [Act.put, List.setIfInBounds_toArray, List.set_cons_zero, List.set_cons_succ])))
      refine WQ_nil ?_
      intro w1 hb1
      have hb2 := Lib.hid (bThen hb.out hb1)
      clear hb1
      have hm : (x'.tmod y').natAbs < y'.natAbs := by rw [Int.natAbs_tmod]; exact Nat.mod_lt _ (by omega)
      go_wp2_with fail
      go_roundw
      case rel => exact ⟨y', x'.tmod y', rfl, rfl, Lib.hid (gcd_step.trans hg.out), hy', by omega, hb2⟩
      case measure => exact hm

set_option maxHeartbeats 800000 in
set_option maxRecDepth 100000 in
theorem Lowest_any (n m : Int) (w : World) (hn : n.natAbs ≤ 1000000000000000) (hm : 0 < m) (hm2 : m ≤ 1000000000000000) :
    Calls Try.prog 21 #[.int .i64 n, .int .i64 m] w fun e w' => e = .returned (.agg #[.int .i64 (fr n m).1, .int .i64 (fr n m).2]) ∧ Below w.heap.size w w' := by
  have h0 : 0 < Int.gcd n m := Nat.pos_of_ne_zero (fun h => by have := (Int.gcd_eq_zero_iff.1 h).2; omega)
  have h1 := @fr_bd1 n m _ hn
  have h2 := @fr_bd2 n m 1000000000000000 (by omega)
  have hD := Lib.hid (fun W => bGcd_any n m W hn (by omega))
  unfold fr at h1 h2 ⊢
  dsimp only at h1 h2 ⊢
  obtain ⟨g, hg⟩ : ∃ g : Int, ((Int.gcd n m : Nat) : Int) = g := ⟨_, rfl⟩
  rw [hg] at h1 h2 hD ⊢
  have hg0 : 0 < g := by omega
  have hg1 : (g == 0) = false := by rw [beq_eq_false_iff_ne]; omega
  have hg2 : ¬ g = 0 := by omega
  have hmn : decide (m < 0) = false := decide_eq_false (by omega)
  clear hg h0
  go_enter Try.func21, Try.ntmps21
  go_wp2_with fail
  refine (hD.out _).mono ?_
  rintro e w1 ⟨rfl, hb⟩
  have K0 : Hid (Blk w1 w.heap.size #[.int .i64 0, .int .i64 0]) := Lib.hid ((Blk.new _ _ _).to hb)
  have HB := Lib.hid (bThen (bAlloc (bSelf w) _) hb)
  clear hb
  go_wp2_with fail
  refine wp_region_quiet_tail 7 (fun w' => Below (World.heap w1).size (w1) w') (by kernel_rfl) (by kernel_rfl) (Below.refl _ _).drew ?_
  simp only [List.take_succ_cons, List.take_zero, List.drop_succ_cons, List.drop_zero]
  refine WQ.out ?_
  repeat (first | (refine WQ_no (by rfl) ?_; (simp only [Act.put, List.setIfInBounds_toArray, List.set_cons_zero, List.set_cons_succ])) | (refine WQ_yes (by rfl) ?_; apply Exists.intro; refine ⟨fun w1 hb1 => ?_, ?_⟩; (focus ((skip; have hb1 := Lib.hid hb1; go_simp); (try (go_bits; try go_simp)); (try (rw [if_pos (by omega)]; try go_simp)); (first | done | (fail) | (with_reducible rfl) | exact rfl))); (simp only [Act.put, List.setIfInBounds_toArray, List.set_cons_zero, List.set_cons_succ])))
  refine WQ_nil ?_
  intro w1 hb1
  replace K0 := Lib.hid (K0.out.to hb1)
  replace HB := Lib.hid (bThen HB.out hb1)
  clear hb1
  obtain ⟨-, k0, f0⟩ := K0.out
  go_wp2_with fail
  have F := (K0.out.set 0 (.int .i64 (n.tdiv g))).set 1 (.int .i64 (m.tdiv g))
  have F0 := F.2.1 0
  have F1 := F.2.1 1
  clear F k0 f0
  refine bodyPost_ret (v := .agg #[.int .i64 (n.tdiv g), .int .i64 (m.tdiv g)]) ?_ rfl ⟨rfl, ?_⟩
  · simp [results, Try.results21, go_sem, F0, F1]
  · exact (HB.out.setCell (p := ⟨w.heap.size, 0, none⟩) (Nat.le_refl _) _).setCell (p := ⟨w.heap.size, 1, none⟩) (Nat.le_refl _) _

/-- Is a fraction in lowest terms, with Den above 0? -/
def lowB (n m : Int) : Bool := decide (0 < m) && ((Int.gcd n m : Nat) : Int) == 1

set_option maxHeartbeats 400000 in
theorem IsLowest_any (n m : Int) (w : World) (hn : n.natAbs ≤ 1000000000000000) (hm : m.natAbs ≤ 1000000000000000) :
    Calls Try.prog 15 #[.agg #[.int .i64 n, .int .i64 m]] w fun e w' => e = .returned (.bool (lowB n m)) ∧ Below w.heap.size w w' := by
  have hD := Lib.hid (fun W => bGcd_any n m W hn hm)
  unfold lowB
  obtain ⟨g, hg⟩ : ∃ g : Int, ((Int.gcd n m : Nat) : Int) = g := ⟨_, rfl⟩
  rw [hg] at hD ⊢
  clear hg
  by_cases h : 0 < m
  · have h1 : decide (0 < m) = true := decide_eq_true h
    rw [h1, Bool.true_and]
    go_enter Try.func15, Try.ntmps15
    go_wp2_with fail
    refine (hD.out _).mono ?_
    rintro e w1 ⟨rfl, hb⟩
    have HB := Lib.hid (bThen (bAlloc (bSelf w) _) hb)
    clear hb
    go_wp2_with fail
    go_ret
    exact ⟨rfl, HB.out⟩
  · have h1 : decide (0 < m) = false := decide_eq_false h
    rw [h1, Bool.false_and]
    go_enter Try.func15, Try.ntmps15
    go_wp2_with fail
    go_ret
    exact ⟨rfl, bAlloc (bSelf w) _⟩

end Go.Proofs.Ytmofgejoogikfaa

