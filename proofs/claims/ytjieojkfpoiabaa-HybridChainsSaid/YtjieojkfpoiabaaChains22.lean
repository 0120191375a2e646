/-
  Texts of this claim, in their build order: G2 V1.
-/
import Derived.Test.YtjieojkfpoiabaaChains21
import Derived.Test.YtjieojkfpoiabaaChains13
import Derived.Deep.Strs
import Derived.Shelf.Bits.Mul64
import Derived.Shelf.Spec.BitsCarry

/-
  The arguments of a statement, opened: a clock; messages.
-/
namespace Go.Proofs.Ytjieojkfpoiabaa
open Go.ChangeShapes Go.WideShapes Go.ChangeAt Go.RowKit

theorem arr2 {cs : Array Value} (h : cs.size = 2) : ∃ a b, cs = #[a, b] := by
  obtain ⟨l⟩ := cs
  match l, h with
  | [a, b], _ => exact ⟨a, b, rfl⟩

theorem cellTypesC : Try.prog.cellTypes Try.prog.depth 45 = some [3, 3] := by kernel_rfl
set_option maxRecDepth 100000 in
theorem open_clock {w : World} {base : Nat} {v : Value} (h : Value.okWide Try.prog w .any base 45 v) : ∃ d u : Int, v = .agg #[.int .i64 d, .int .i64 u] := by
  obtain ⟨fs, hu⟩ : ∃ fs, Try.prog.underlying 45 = some (.struct fs) := ⟨_, Try.underlying45⟩
  simp only [Value.okWide, hu] at h
  obtain ⟨cs, rfl, hs, hr⟩ := h
  obtain ⟨a, b, rfl⟩ := arr2 (hs.trans (show Try.prog.cellsOf 45 = 2 by kernel_rfl))
  obtain ⟨u0, hu0, hc0⟩ := row_at _ cellTypesC hr (i := 0) (v := a) (by decide) rfl
  cases hu0
  obtain ⟨u1, hu1, hc1⟩ := row_at _ cellTypesC hr (i := 1) (v := b) (by decide) rfl
  cases hu1
  obtain ⟨n0, rfl⟩ := cell_int Try.underlying3 hc0
  obtain ⟨n1, rfl⟩ := cell_int Try.underlying3 hc1
  exact ⟨n0, n1, rfl⟩

set_option maxRecDepth 100000 in
theorem msg_of {H : Type} {enc : TypeId × Value → H} {W : World} {base fuel : Nat} {spare : Nat → Bool} {held : Bool} {cs : List Value} {y : DataW H × List MemPlace} (h : DataW.trod enc Try.prog W base spare held fuel 61 cs = some y) :
    ∃ p : Msg, cs = [.int .i64 p.1, .int .i64 p.2.1, .int .i64 p.2.2] := by
  obtain ⟨y0, y1, y2, m, _, hl, h0, h1, h2⟩ := Go.Deep.trod_struct3 Try.underlying61 h
  have hl3 : cs.length = 3 := hl.trans (by kernel_rfl)
  have hc1 : Try.prog.cellsOf 3 = 1 := by kernel_rfl
  match cs, hl3 with
  | [a, b, c], _ =>
    simp only [hc1] at h0 h1 h2
    obtain ⟨n0, e0, -, -⟩ := DataW.trod_int Try.underlying3 h0
    obtain ⟨n1, e1, -, -⟩ := DataW.trod_int Try.underlying3 h1
    obtain ⟨n2, e2, -, -⟩ := DataW.trod_int Try.underlying3 h2
    simp at e0 e1 e2
    exact ⟨(n0, n1, n2), by rw [e0, e1, e2]⟩

set_option maxRecDepth 100000 in
theorem open_msgs {H : Type} {enc : TypeId × Value → H} {W : World} {v : Value} {d : DataW H} {p : List MemPlace} {base : Nat} (hv : Value.okWide Try.prog W .any base 43 v) (h : DataW.Trod enc Try.prog W 0 (fun _ => true) true 43 v d p) :
    ∃ (ms : List Msg) (a : Option Addr) (cap : Nat), v = .slice a ms.length cap ∧ ms.length ≤ maxLen ∧ ms.length ≤ cap ∧ Reads W a (ms.length * 3) (msgs ms) := by
  obtain ⟨a0, len0, cap0, rfl⟩ := okWide_slice Try.underlying43 hv
  obtain ⟨fuel, hf⟩ := h
  rcases DataW.trod_slice Try.underlying43 hf with ⟨hcs, -⟩ | ⟨x, l, c, elems, rest, n, _, hcs, _, hb, hl, hm, hlen, hel, -, -⟩
  · simp [Value.cells] at hcs
    obtain ⟨rfl, rfl, rfl⟩ := hcs
    exact ⟨[], none, 0, rfl, Nat.zero_le _, Nat.zero_le _, .inl rfl⟩
  · simp [Value.cells] at hcs
    obtain ⟨rfl, rfl, rfl⟩ := hcs
    have hc3 : Try.prog.cellsOf 61 = 3 := by kernel_rfl
    have hex : ∀ i : Nat, ∃ q : Msg, i < len0 → ∀ k, k < 3 → W.cell? (x.add (i * 3) |>.add k) = ([Value.int .i64 q.1, .int .i64 q.2.1, .int .i64 q.2.2] : List Value)[k]? := by
      intro i
      by_cases hi : i < len0
      · have h1 := hel i hi
        rw [hc3, List.getElem?_eq_getElem (by omega)] at h1
        obtain ⟨cs', hcs, hy⟩ := Option.bind_eq_some_iff.1 h1
        obtain ⟨q, rfl⟩ := msg_of hy
        obtain ⟨-, -, h3⟩ := World.cells?_some hcs
        exact ⟨q, fun _ k hk => h3 k hk⟩
      · exact ⟨(0, 0, 0), fun h => absurd h hi⟩
    obtain ⟨f, hf⟩ := Classical.axiomOfChoice hex
    have hml : ((List.range len0).map f).length = len0 := by simp
    refine ⟨(List.range len0).map f, some x, cap0, by rw [hml], by rw [hml]; omega, by rw [hml]; exact hl, ?_⟩
    rw [hml]
    by_cases h0 : len0 = 0
    · exact .inl (by rw [h0])
    · have hc := hf 0 (by omega) 0 (by omega)
      obtain ⟨b, off, spot⟩ := x
      have hspot : spot = none := by simpa [Addr.add] using World.cell?_spot hc
      subst hspot
      have hadd : ∀ i j, ((⟨b, off, none⟩ : Addr).add i).add j = ⟨b, off + (i + j), none⟩ := by intro i j; unfold Addr.add; split <;> split <;> simp_all <;> omega
      refine .inr ⟨b, off, rfl, ?_, fun i hi => ?_⟩
      · have := cell_lt hc; rwa [hadd] at this
      · have h3 := hf (i / 3) (by omega) (i % 3) (Nat.mod_lt _ (by decide))
        rw [hadd, show i / 3 * 3 + i % 3 = i by omega] at h3
        rw [h3]
        have hg : mg ((List.range len0).map f) (i / 3) = f (i / 3) := by
          unfold mg
          rw [List.getD_eq_getElem?_getD, List.getElem?_map, List.getElem?_range (by omega)]
          rfl
        unfold msgs mK mS mA
        rw [hg]
        have hcase : i % 3 = 0 ∨ i % 3 = 1 ∨ i % 3 = 2 := by omega
        rcases hcase with h | h | h <;> rw [h] <;> rfl

end Go.Proofs.Ytjieojkfpoiabaa

/-
  Products that add up to 0: isZero of package hybrid, over math/bits.
-/
namespace Go.Proofs.Ytjieojkfpoiabaa
open Go.RowKit Go.Lib

set_option maxHeartbeats 1000000 in
theorem Mul64_any (x y : Nat) (hx : x < 18446744073709551616) (hy : y < 18446744073709551616) (w : World) :
    Calls Try.prog 143 #[.int .u64 x, .int .u64 y] w fun e w' => e = .returned (.tuple #[.int .u64 ((x * y / 18446744073709551616 : Nat) : Int), .int .u64 ((x * y % 18446744073709551616 : Nat) : Int)]) ∧ w = w' := by
  obtain ⟨bd, bt, bw, hhi⟩ := Lib.mul64_hi x y hx hy
  have ba := Lib.half_mul_le (a := x / 4294967296) (b := y / 4294967296) (by omega) (by omega)
  have bb := Lib.half_mul_le (a := x / 4294967296) (b := y % 4294967296) (by omega) (by omega)
  have bc := Lib.half_mul_le (a := x % 4294967296) (b := y / 4294967296) (by omega) (by omega)
  have ba' : x / 4294967296 * (y / 4294967296) < 18446744073709551616 := by omega
  have bb' : x / 4294967296 * (y % 4294967296) < 18446744073709551616 := by omega
  have bc' : x % 4294967296 * (y / 4294967296) < 18446744073709551616 := by omega
  have bh1 : x / 4294967296 * (y / 4294967296) + (x / 4294967296 * (y % 4294967296) + x % 4294967296 * (y % 4294967296) / 4294967296) / 4294967296 < 18446744073709551616 := by omega
  have bh : x / 4294967296 * (y / 4294967296) + (x / 4294967296 * (y % 4294967296) + x % 4294967296 * (y % 4294967296) / 4294967296) / 4294967296 + ((x / 4294967296 * (y % 4294967296) + x % 4294967296 * (y % 4294967296) / 4294967296) % 4294967296 + x % 4294967296 * (y / 4294967296)) / 4294967296 < 18446744073709551616 := by omega
  go_enter Try.func143, Try.ntmps143
  go_wp2
  simp only [Mul64.maskN x hx, Mul64.maskN y hy, Mul64.divN, Mul64.mulN, Mul64.addN, Mul64.wrapN _ bd, Mul64.wrapN _ bb', Mul64.wrapN _ bt, Mul64.maskN _ bt, Mul64.wrapN _ bc', Mul64.wrapN _ bw, Mul64.wrapN _ ba', Mul64.wrapN _ bh1, Mul64.wrapN _ bh, Mul64.wrapM (x * y)]
  rw [hhi]
  go_ret2
  exact ⟨rfl, rfl⟩

def brw (x y : Nat) : Nat := if x < y then 1 else 0
theorem run_Sub64 (x y : Nat) (w : World) :
    (callFunc 144 #[.int .u64 x, .int .u64 y, .int .u64 0]).run Try.prog w = .ok (.value (.tuple #[.int .u64 (((x + 18446744073709551616 - y) % 18446744073709551616 : Nat) : Int), .int .u64 (brw x y : Nat)])) w := by
  rw [run_callFunc_extern Try.func144 (by kernel_rfl) (by kernel_rfl) (by kernel_rfl) (e := sub64Entry) (by kernel_rfl), show (0 : Int) = ((0 : Nat) : Int) from rfl, run_sub64 x y 0 (by omega) w]
  rfl
theorem run_Add64 (x y : Nat) (w : World) :
    (callFunc 145 #[.int .u64 x, .int .u64 y, .int .u64 0]).run Try.prog w = .ok (.value (.tuple #[.int .u64 (((x + y) % 18446744073709551616 : Nat) : Int), .int .u64 (((x + y) / 18446744073709551616 : Nat) : Int)])) w := by
  rw [run_callFunc_extern Try.func145 (by kernel_rfl) (by kernel_rfl) (by kernel_rfl) (e := add64Entry) (by kernel_rfl), run_add64 x y 0 (by omega) (by omega) (by omega) (by omega)]
  simp only [Result.andThen]
  congr 5 <;> omega

/-- What products add up to. -/
def prodTo (ps : List (Int × Int)) : Nat → Int
  | 0 => 0
  | k + 1 => prodTo ps k + (fg ps k).1 * (fg ps k).2

theorem zpos {hi lo h l : Nat} {S : Int} (hv : ((hi * 18446744073709551616 + lo : Nat) : Int) = S % 340282366920938463463374607431768211456) :
    ((((hi + (h + (lo + l) / 18446744073709551616) % 18446744073709551616) % 18446744073709551616) * 18446744073709551616 + (lo + l) % 18446744073709551616 : Nat) : Int) = (S + ((h * 18446744073709551616 + l : Nat) : Int)) % 340282366920938463463374607431768211456 := by
  obtain ⟨c, hc⟩ : ∃ c, (lo + l) / 18446744073709551616 = c := ⟨_, rfl⟩
  obtain ⟨t, ht⟩ : ∃ t, (lo + l) % 18446744073709551616 = t := ⟨_, rfl⟩
  have h1 : lo + l = 18446744073709551616 * c + t := by omega
  have h2 : t < 18446744073709551616 := by omega
  rw [hc, ht]
  clear hc ht
  obtain ⟨d, hd⟩ : ∃ d, (h + c) / 18446744073709551616 = d := ⟨_, rfl⟩
  obtain ⟨e, he⟩ : ∃ e, (h + c) % 18446744073709551616 = e := ⟨_, rfl⟩
  have h3 : h + c = 18446744073709551616 * d + e := by omega
  rw [he]
  clear hd he
  obtain ⟨d2, hd⟩ : ∃ d, (hi + e) / 18446744073709551616 = d := ⟨_, rfl⟩
  obtain ⟨e2, he⟩ : ∃ f, (hi + e) % 18446744073709551616 = f := ⟨_, rfl⟩
  have h4 : hi + e = 18446744073709551616 * d2 + e2 := by omega
  have h5 : e2 < 18446744073709551616 := by omega
  rw [he]
  clear hd he
  rw [← Int.emod_add_emod, ← hv]
  have h6 : ((hi * 18446744073709551616 + lo : Nat) : Int) + ((h * 18446744073709551616 + l : Nat) : Int) = ((e2 * 18446744073709551616 + t : Nat) : Int) + 340282366920938463463374607431768211456 * ((d + d2 : Nat) : Int) := by omega
  rw [h6, Int.add_mul_emod_self_left]
  exact (Int.emod_eq_of_lt (by omega) (by omega)).symm
set_option maxRecDepth 100000 in
theorem zneg {hi lo h l : Nat} {S : Int} (h2 : lo < 18446744073709551616) (h3 : l < 18446744073709551616)
    (hv : ((hi * 18446744073709551616 + lo : Nat) : Int) = S % 340282366920938463463374607431768211456) :
    ((hi : Int) - ((h : Int) + (brw lo l : Nat)) % 18446744073709551616) % 18446744073709551616 * 18446744073709551616 + ((lo + 18446744073709551616 - l) % 18446744073709551616 : Nat) = (S - ((h * 18446744073709551616 + l : Nat) : Int)) % 340282366920938463463374607431768211456 := by
  unfold brw
  split <;> omega
theorem abs_mul_pos {x y : Int} (h : (decide (x < 0) != decide (y < 0)) = false) : x * y = ((x.natAbs * y.natAbs : Nat) : Int) := by
  rw [Int.natCast_mul]
  rcases Int.lt_or_le x 0 with hx | hx <;> rcases Int.lt_or_le y 0 with hy | hy
  · rw [show ((x.natAbs : Nat) : Int) = -x by omega, show ((y.natAbs : Nat) : Int) = -y by omega, Int.neg_mul_neg]
  · rw [decide_eq_true hx, decide_eq_false (by omega)] at h; cases h
  · rw [decide_eq_false (by omega), decide_eq_true hy] at h; cases h
  · rw [show ((x.natAbs : Nat) : Int) = x by omega, show ((y.natAbs : Nat) : Int) = y by omega]
theorem abs_mul_neg {x y : Int} (h : (decide (x < 0) != decide (y < 0)) = true) : x * y = -((x.natAbs * y.natAbs : Nat) : Int) := by
  rw [Int.natCast_mul]
  rcases Int.lt_or_le x 0 with hx | hx <;> rcases Int.lt_or_le y 0 with hy | hy
  · rw [decide_eq_true hx, decide_eq_true hy] at h; cases h
  · rw [show ((x.natAbs : Nat) : Int) = -x by omega, show ((y.natAbs : Nat) : Int) = y by omega, Int.neg_mul]; omega
  · rw [show ((x.natAbs : Nat) : Int) = x by omega, show ((y.natAbs : Nat) : Int) = -y by omega, Int.mul_neg]; omega
  · rw [decide_eq_false (by omega), decide_eq_false (by omega)] at h; cases h

set_option maxHeartbeats 1600000 in
set_option maxRecDepth 100000 in
theorem isZero_any (ps : List (Int × Int)) (a : Option Addr) (cap : Nat) (w : World) (hlen : ps.length ≤ 1000) (hb : ∀ k, k < ps.length → (fg ps k).1.natAbs ≤ 4000000000000000000 ∧ (fg ps k).2.natAbs ≤ 4000000000000000000)
    (hS : (prodTo ps ps.length).natAbs < 170141183460469231731687303715884105728) (hr : Reads w a (ps.length * 2) (fracs ps)) :
    Calls Try.prog 129 #[.slice a ps.length cap] w fun e w' => e = .returned (.bool (decide (prodTo ps ps.length = 0))) ∧ Below w.heap.size w w' := by
  have HR := Lib.hid hr
  have HBD := Lib.hid hb
  have HSB := Lib.hid hS
  have HM := Lib.hid Mul64_any
  clear hr hb hS
  go_enter Try.func129, Try.ntmps129
  go_wp2_with fail
  go_loopw [3, 4, 12] (fun hv lv iv wr => ∃ (k hi lo : Nat), k ≤ ps.length ∧ iv = .int .i64 k ∧ hv = .int .u64 hi ∧ lv = .int .u64 lo ∧ hi < 18446744073709551616 ∧ lo < 18446744073709551616 ∧ Hid (((hi * 18446744073709551616 + lo : Nat) : Int) = prodTo ps k % 340282366920938463463374607431768211456) ∧ Hid (Below w.heap.size w wr)) (fun _ _ iv _ => ps.length - (intOf iv).toNat)
  case atStart => exact ⟨0, 0, 0, Nat.zero_le _, rfl, rfl, rfl, by omega, by omega, Lib.hid rfl, Lib.hid (bSelf w)⟩
  case round =>
    obtain ⟨k, hi, lo, hk, rfl, rfl, rfl, hhi, hlo, hinv, hbel⟩ := hrel
    by_cases hlt : k < ps.length
    · have hltI : decide ((k : Int) < (ps.length : Int)) = true := decide_eq_true (by omega)
      obtain ⟨b, off, rfl, hb', hc'⟩ := (HR.out.to hbel.out).at (k := k * 2) (by omega)
      obtain ⟨b0, b1⟩ := HBD.out k hlt
      have HPR : Hid (prodTo ps (k + 1) = prodTo ps k + (fg ps k).1 * (fg ps k).2) := Lib.hid rfl
      obtain ⟨x, y, hxy⟩ : ∃ x y, fg ps k = (x, y) := ⟨_, _, rfl⟩
      have kx : wr.cell? ⟨b, off + k * 2, none⟩ = some (.int .i64 x) := by rw [hc' _ (by omega), fracs0, hxy]
      have ky : wr.cell? ⟨b, off + k * 2 + 1, none⟩ = some (.int .i64 y) := by rw [Nat.add_assoc, hc' _ (by omega), fracs1, hxy]
      rw [hxy] at b0 b1 HPR
      dsimp only at b0 b1 HPR
      clear hc' hxy
      rcases Int.lt_or_le x 0 with hx | hx <;> rcases Int.lt_or_le y 0 with hy | hy
      · obtain ⟨X, rfl⟩ : ∃ X : Nat, x = -(X : Int) := ⟨x.natAbs, by omega⟩
        obtain ⟨Y, rfl⟩ : ∃ X : Nat, y = -(X : Int) := ⟨y.natAbs, by omega⟩
        have X0 : X ≤ 4000000000000000000 := by omega
        have Y0 : Y ≤ 4000000000000000000 := by omega
        have hX0 : 0 < X := by omega
        have mx : -(X : Int) < X := by omega
        have hY0 : 0 < Y := by omega
        have my : -(Y : Int) < Y := by omega
        have HPQ : Hid (-(X : Int) * -(Y : Int) = ((X * Y : Nat) : Int)) := Lib.hid (by rw [Int.natCast_mul] <;> grind)
        have hpp : X * Y ≤ 4000000000000000000 * 4000000000000000000 := Nat.mul_le_mul X0 Y0
        clear hx hy b0 b1
        go_wp2_with fail
        refine (HM.out X Y (by omega) (by omega) _).mono ?_
        rintro e w5 ⟨rfl, rfl⟩
        obtain ⟨h, hh⟩ : ∃ h, X * Y / 18446744073709551616 = h := ⟨_, rfl⟩
        obtain ⟨l, hl⟩ : ∃ h, X * Y % 18446744073709551616 = h := ⟨_, rfl⟩
        have HHL : Hid (X * Y = h * 18446744073709551616 + l) := Lib.hid (by omega)
        have hl1 : l < 18446744073709551616 := by omega
        have hh1 : h < 18446744073709551616 := by omega
        rw [hh, hl]
        clear hh hl hpp
        go_wp2_with (simp only [run_Add64])
        go_roundw
        case rel =>
          refine ⟨k + 1, (hi + (h + (lo + l) / 18446744073709551616) % 18446744073709551616) % 18446744073709551616, (lo + l) % 18446744073709551616, by omega, by go_num, ?_, ?_, by omega, by omega, Lib.hid ?_, Lib.hid (bAlloc hbel.out _)⟩
          · rw [IntKind.wrap_u64, IntKind.wrap_u64]; congr 1 <;> omega
          · congr 1
          · rw [HPR.out, HPQ.out, HHL.out]; exact zpos hinv.out
        case measure => simp [intOf]; omega
      · obtain ⟨X, rfl⟩ : ∃ X : Nat, x = -(X : Int) := ⟨x.natAbs, by omega⟩
        obtain ⟨Y, rfl⟩ : ∃ X : Nat, y = (X : Int) := ⟨y.natAbs, by omega⟩
        have X0 : X ≤ 4000000000000000000 := by omega
        have Y0 : Y ≤ 4000000000000000000 := by omega
        have hX0 : 0 < X := by omega
        have mx : -(X : Int) < X := by omega
        have my : ¬ (Y : Int) < -Y := by omega
        have HPQ : Hid (-(X : Int) * (Y : Int) = -((X * Y : Nat) : Int)) := Lib.hid (by rw [Int.natCast_mul] <;> grind)
        have hpp : X * Y ≤ 4000000000000000000 * 4000000000000000000 := Nat.mul_le_mul X0 Y0
        clear hx hy b0 b1
        go_wp2_with fail
        refine (HM.out X Y (by omega) (by omega) _).mono ?_
        rintro e w5 ⟨rfl, rfl⟩
        obtain ⟨h, hh⟩ : ∃ h, X * Y / 18446744073709551616 = h := ⟨_, rfl⟩
        obtain ⟨l, hl⟩ : ∃ h, X * Y % 18446744073709551616 = h := ⟨_, rfl⟩
        have HHL : Hid (X * Y = h * 18446744073709551616 + l) := Lib.hid (by omega)
        have hl1 : l < 18446744073709551616 := by omega
        have hh1 : h < 18446744073709551616 := by omega
        rw [hh, hl]
        clear hh hl hpp
        go_wp2_with (simp only [run_Sub64])
        go_roundw
        case rel =>
          refine ⟨k + 1, (((hi : Int) - ((h : Int) + (brw lo l : Nat)) % 18446744073709551616) % 18446744073709551616).toNat, (lo + 18446744073709551616 - l) % 18446744073709551616, by omega, by go_num, ?_, ?_, by omega, by omega, Lib.hid ?_, Lib.hid (bAlloc hbel.out _)⟩
          · rw [IntKind.wrap_u64, IntKind.wrap_u64]; congr 1 <;> omega
          · congr 1; try omega
          · rw [HPR.out, HPQ.out, HHL.out, ← Int.sub_eq_add_neg, ← zneg hlo hl1 hinv.out (h := h)]
            omega
        case measure => simp [intOf]; omega
      · obtain ⟨X, rfl⟩ : ∃ X : Nat, x = (X : Int) := ⟨x.natAbs, by omega⟩
        obtain ⟨Y, rfl⟩ : ∃ X : Nat, y = -(X : Int) := ⟨y.natAbs, by omega⟩
        have X0 : X ≤ 4000000000000000000 := by omega
        have Y0 : Y ≤ 4000000000000000000 := by omega
        have mx : ¬ (X : Int) < -X := by omega
        have hY0 : 0 < Y := by omega
        have my : -(Y : Int) < Y := by omega
        have HPQ : Hid ((X : Int) * -(Y : Int) = -((X * Y : Nat) : Int)) := Lib.hid (by rw [Int.natCast_mul] <;> grind)
        have hpp : X * Y ≤ 4000000000000000000 * 4000000000000000000 := Nat.mul_le_mul X0 Y0
        clear hx hy b0 b1
        go_wp2_with fail
        refine (HM.out X Y (by omega) (by omega) _).mono ?_
        rintro e w5 ⟨rfl, rfl⟩
        obtain ⟨h, hh⟩ : ∃ h, X * Y / 18446744073709551616 = h := ⟨_, rfl⟩
        obtain ⟨l, hl⟩ : ∃ h, X * Y % 18446744073709551616 = h := ⟨_, rfl⟩
        have HHL : Hid (X * Y = h * 18446744073709551616 + l) := Lib.hid (by omega)
        have hl1 : l < 18446744073709551616 := by omega
        have hh1 : h < 18446744073709551616 := by omega
        rw [hh, hl]
        clear hh hl hpp
        go_wp2_with (simp only [run_Sub64])
        go_roundw
        case rel =>
          refine ⟨k + 1, (((hi : Int) - ((h : Int) + (brw lo l : Nat)) % 18446744073709551616) % 18446744073709551616).toNat, (lo + 18446744073709551616 - l) % 18446744073709551616, by omega, by go_num, ?_, ?_, by omega, by omega, Lib.hid ?_, Lib.hid (bAlloc hbel.out _)⟩
          · rw [IntKind.wrap_u64, IntKind.wrap_u64]; congr 1 <;> omega
          · congr 1; try omega
          · rw [HPR.out, HPQ.out, HHL.out, ← Int.sub_eq_add_neg, ← zneg hlo hl1 hinv.out (h := h)]
            omega
        case measure => simp [intOf]; omega
      · obtain ⟨X, rfl⟩ : ∃ X : Nat, x = (X : Int) := ⟨x.natAbs, by omega⟩
        obtain ⟨Y, rfl⟩ : ∃ X : Nat, y = (X : Int) := ⟨y.natAbs, by omega⟩
        have X0 : X ≤ 4000000000000000000 := by omega
        have Y0 : Y ≤ 4000000000000000000 := by omega
        have mx : ¬ (X : Int) < -X := by omega
        have my : ¬ (Y : Int) < -Y := by omega
        have HPQ : Hid ((X : Int) * (Y : Int) = ((X * Y : Nat) : Int)) := Lib.hid (by rw [Int.natCast_mul] <;> grind)
        have hpp : X * Y ≤ 4000000000000000000 * 4000000000000000000 := Nat.mul_le_mul X0 Y0
        clear hx hy b0 b1
        go_wp2_with fail
        refine (HM.out X Y (by omega) (by omega) _).mono ?_
        rintro e w5 ⟨rfl, rfl⟩
        obtain ⟨h, hh⟩ : ∃ h, X * Y / 18446744073709551616 = h := ⟨_, rfl⟩
        obtain ⟨l, hl⟩ : ∃ h, X * Y % 18446744073709551616 = h := ⟨_, rfl⟩
        have HHL : Hid (X * Y = h * 18446744073709551616 + l) := Lib.hid (by omega)
        have hl1 : l < 18446744073709551616 := by omega
        have hh1 : h < 18446744073709551616 := by omega
        rw [hh, hl]
        clear hh hl hpp
        go_wp2_with (simp only [run_Add64])
        go_roundw
        case rel =>
          refine ⟨k + 1, (hi + (h + (lo + l) / 18446744073709551616) % 18446744073709551616) % 18446744073709551616, (lo + l) % 18446744073709551616, by omega, by go_num, ?_, ?_, by omega, by omega, Lib.hid ?_, Lib.hid (bAlloc hbel.out _)⟩
          · rw [IntKind.wrap_u64, IntKind.wrap_u64]; congr 1 <;> omega
          · congr 1
          · rw [HPR.out, HPQ.out, HHL.out]; exact zpos hinv.out
        case measure => simp [intOf]; omega
    · have hltI : decide ((k : Int) < (ps.length : Int)) = false := decide_eq_false (by omega)
      have hke : k = ps.length := by omega
      have HFIN : Hid (prodTo ps ps.length = 0 ↔ hi = 0 ∧ lo = 0) := Lib.hid (by
        have h1 := hinv.out
        have h2 := HSB.out
        rw [hke] at h1
        generalize prodTo ps ps.length = S at *
        constructor
        · intro h
          subst h
          have : ((hi * 18446744073709551616 + lo : Nat) : Int) = 0 := by rw [h1]; rfl
          omega
        · rintro ⟨rfl, rfl⟩
          have h3 : S % 340282366920938463463374607431768211456 = 0 := by rw [← h1]; rfl
          have h4 := Int.mul_ediv_add_emod S 340282366920938463463374607431768211456
          rw [h3] at h4
          generalize S / 340282366920938463463374607431768211456 = q at *
          omega)
      clear hke hinv
      by_cases h0 : hi = 0
      · subst h0
        by_cases h1 : lo = 0
        · subst h1
          go_wp2_with fail
          go_ret
          exact ⟨ret_bool (by rw [decide_eq_true (HFIN.out.2 (by simp))]), hbel.out⟩
        · have h1' : ((lo : Int) == 0) = false := by rw [beq_eq_false_iff_ne]; omega
          have H1 := Lib.hid h1
          go_wp2_with fail
          go_ret
          exact ⟨ret_bool (by rw [decide_eq_false (fun h => H1.out (HFIN.out.1 h).2)]), hbel.out⟩
      · have h1' : ((hi : Int) == 0) = false := by rw [beq_eq_false_iff_ne]; omega
        have H1 := Lib.hid h0
        go_wp2_with fail
        go_ret
        exact ⟨ret_bool (by rw [decide_eq_false (fun h => H1.out (HFIN.out.1 h).1)]), hbel.out⟩

end Go.Proofs.Ytjieojkfpoiabaa

