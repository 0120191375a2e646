/-
  awake: the examples of chapter 8 hold.
-/
import Derived.Test.YtjieojkfpoiabaaE5
namespace Go.Proofs.Ytjieojkfpoiabaa
open Go.RowKit

set_option maxHeartbeats 1600000 in
set_option maxRecDepth 100000 in
theorem awake_any (w : World) : Calls Try.prog 10 #[] w fun e w' => e = .returned (.bool true) ∧ Below w.heap.size w w' := by
  have HRUN := Lib.hid (fun (a : Option Addr) (cap : Nat) (W : World) h => RunOf_ok exT [8, 0, 0] a cap W (by decide) h exRun0)
  have HERR := Lib.hid (fun (a : Option Addr) (cap : Nat) (W : World) h => ErrorOf_ok exT [8, 0, 0] a cap 1 W (by decide) h exErr0)
  have HLAT := Lib.hid (fun (a : Option Addr) (W : World) h => LateIn_ok exM a 5 5 40 W (by decide) (by decide) h exOpen)
  have HMOV := Lib.hid (fun (a1 a2 : Option Addr) (W : World) h1 h2 => MovedOf_ok [2, 4] [6, 4] a1 a2 2 2 W (by decide) (by decide) h1 h2 exChk)
  rw [exRun] at HRUN
  rw [exErrLo, exErrHi] at HERR
  rw [exLate, show exM.length = 5 from rfl] at HLAT
  unfold MovPost at HMOV
  simp only [List.length_cons, List.length_nil, Nat.reduceAdd, exMov] at HRUN HERR HLAT HMOV
  go_enter Try.func10, Try.ntmps10
  go_wp2_with fail
  refine (Test_any _).mono ?_
  rintro e w1 ⟨rfl, hb⟩
  have HB := Lib.hid hb
  clear hb
  go_wp2_with fail
  refine (HRUN.out _ _ _ (three_fresh _ _ _ _ _ rfl)).mono ?_
  rintro e w2 ⟨a2, c2, rfl, hr, hb⟩
  replace HB := Lib.hid (bThen (bAlloc HB.out _) hb)
  have HR := Lib.hid hr
  clear hr hb
  go_wp2_with fail
  refine (Test_any _).mono ?_
  rintro e w3 ⟨rfl, hb⟩
  replace HB := Lib.hid (bThen HB.out hb)
  replace HR := Lib.hid (HR.out.to hb)
  clear hb
  go_wp2_with fail
  refine (HERR.out _ _ _ (three_fresh _ _ _ _ _ rfl)).mono ?_
  rintro e w4 ⟨rfl, hb⟩
  replace HB := Lib.hid (bThen (bAlloc HB.out _) hb)
  replace HR := Lib.hid ((HR.out.alloc (.cells #[.int .i64 8, .int .i64 0, .int .i64 0] 3)).to hb)
  clear hb
  go_wp2_with fail
  refine (Messages_any _).mono ?_
  rintro e w5 ⟨rfl, hm, hb⟩
  replace HB := Lib.hid (bThen (bAlloc HB.out _) hb)
  replace HR := Lib.hid ((HR.out.alloc (.cells #[.int .i64 (-14), .int .i64 (-2)] 23)).to hb)
  have KW := Lib.hid ((Blk.new w4 #[.int .i64 (-14), .int .i64 (-2)] 23).to hb)
  simp only [World.size_alloc] at hm
  have HM := Lib.hid hm
  clear hb hm
  go_wp2_with fail
  refine (HLAT.out _ _ HM.out).mono ?_
  rintro e w6 ⟨a6, c6, rfl, hl, hb⟩
  replace HB := Lib.hid (bThen HB.out hb)
  replace HR := Lib.hid (HR.out.to hb)
  replace KW := Lib.hid (KW.out.to hb)
  have HL := Lib.hid hl
  clear hb hl HM
  go_wp2_with fail
  refine (Chain_any _).mono ?_
  rintro e w7 ⟨b1, b2, rfl, hk, hf, hb⟩
  replace HB := Lib.hid (bThen HB.out hb)
  replace HR := Lib.hid (HR.out.to hb)
  replace KW := Lib.hid (KW.out.to hb)
  replace HL := Lib.hid (HL.out.to hb)
  have HK := Lib.hid hk
  have HF := Lib.hid hf
  clear hb hk hf
  go_wp2_with fail
  refine (HMOV.out _ _ _ HK.out HF.out).mono ?_
  rintro e w8 ⟨a8, c8, rfl, -, hu, hb, -⟩
  replace HB := Lib.hid (bThen HB.out hb)
  replace HR := Lib.hid (HR.out.to hb)
  replace KW := Lib.hid (KW.out.to hb)
  replace HL := Lib.hid (HL.out.to hb)
  have HU := Lib.hid hu
  clear hb hu HK HF
  obtain ⟨-, kw, -⟩ := KW.out
  go_wp2_with fail
  refine (Ints_any [0, 2, 2, 0] [0, 2, 2, 0] _ _ _ _ _ (by decide) (HR.out.alloc _) (four_fresh _ _ _ _ _ _ rfl)).mono ?_
  rintro e w9 ⟨rfl, hb⟩
  replace HB := Lib.hid (bThen (bAlloc HB.out _) hb)
  replace KW := Lib.hid ((KW.out.alloc (.cells #[.int .i64 0, .int .i64 2, .int .i64 2, .int .i64 0] 3)).to hb)
  replace HL := Lib.hid ((HL.out.alloc (.cells #[.int .i64 0, .int .i64 2, .int .i64 2, .int .i64 0] 3)).to hb)
  replace HU := Lib.hid ((HU.out.alloc (.cells #[.int .i64 0, .int .i64 2, .int .i64 2, .int .i64 0] 3)).to hb)
  clear hb kw
  rw [decide_eq_true (Eq.refl _)]
  obtain ⟨-, kw, -⟩ := KW.out
  go_wp2_with fail
  refine (Ints_any [1, 2] [1, 2] _ _ _ _ _ (by decide) (HL.out.alloc _) (two_fresh _ _ _ _ rfl)).mono ?_
  rintro e wa ⟨rfl, hb⟩
  replace HB := Lib.hid (bThen (bAlloc HB.out _) hb)
  replace HU := Lib.hid ((HU.out.alloc (.cells #[.int .i64 1, .int .i64 2] 3)).to hb)
  clear hb kw
  rw [decide_eq_true (Eq.refl _)]
  go_wp2_with fail
  refine (Fracs_any [(5, 1), (6, 1)] [(5, 1), (6, 1)] _ _ _ _ _ (by decide) (HU.out.alloc _) (twoF_fresh _ _ _ _ _ _ rfl)).mono ?_
  rintro e wb ⟨rfl, hb⟩
  replace HB := Lib.hid (bThen (bAlloc HB.out _) hb)
  clear hb
  rw [decide_eq_true (Eq.refl _)]
  go_wp2_with fail
  go_ret
  exact ⟨rfl, HB.out⟩

end Go.Proofs.Ytjieojkfpoiabaa
