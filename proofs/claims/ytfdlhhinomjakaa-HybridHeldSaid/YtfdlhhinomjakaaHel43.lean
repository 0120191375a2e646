/-
  Texts of this claim, in their build order: BS8 BS15 BS9.
-/
import Derived.Test.YtfdlhhinomjakaaHel42
import Derived.Test.YtfdlhhinomjakaaHel32
import Derived.Test.YtfdlhhinomjakaaHel36
import Derived.Test.YtfdlhhinomjakaaHel31
import Derived.Lib.LazyBuf
import Derived.Test.YtfdlhhinomjakaaHel0

namespace Go.Proofs.Ytfdlhhinomjakaa
section
open Go.RowKit

/-- A state as a list, in a row of its own. -/
theorem list_own (x : HT) (z : List Int) (m : Nat) (w : World) (hx : x.ok) (hz : z.length = 4) (hm : x.dl + 2 = (m : Int)) (hm2 : m = 2 ∨ m = 3 ∨ m = 4) :
    Calls Try.prog 30 #[.agg x.cells, .agg (l4 z)] w fun e w' => ∃ a' cap', e = .returned (.slice a' (z.take m).length cap') ∧ (z.take m).length ≤ cap' ∧ Reads w' a' (z.take m).length (ints (z.take m)) ∧ Below w.heap.size w w' ∧ ∀ q, a' = some q → w.heap.size ≤ q.block := by
  have hl : (z.take m).length = m := by rw [List.length_take]; omega
  have HX := zH hx
  clear hx
  rw [hl]
  go_enter Try.func30, Try.ntmps30
  go_wp2_with fail
  refine (count_at x m _ HX.out hm).mono ?_
  rintro e w1 ⟨rfl, hb⟩
  have K1 := zH ((Blk.newAt (B := w.heap.size + 1) (w.alloc (.cells x.cells 68)) (l4 z) 72 (by simp)).to hb)
  have HB := zH (bThen (bAlloc (bAlloc (bSelf w) _) _) hb)
  clear hb
  have HR : Hid (Reads w1 (some ⟨w.heap.size + 1, 0, none⟩) (z.take m).length (ints (z.take m))) := zH (.inr ⟨_, _, rfl, K1.out.1, fun i hi => by
    rw [hl] at hi
    rw [Nat.zero_add, K1.out.2.1 i]
    have e : ints (z.take m) i = .int .i64 (gi z i) := by
      unfold ints
      rw [gi_lt (by rw [hl]; omega), gi_lt (by omega), List.getElem_take]
    rw [e]
    match i, (show i < 4 by omega) with
    | 0, _ => rfl
    | 1, _ => rfl
    | 2, _ => rfl
    | 3, _ => rfl⟩)
  rw [hl] at HR
  have HCL := zH (fun W h => Clone_any (z.take m) ⟨w.heap.size + 1, 0, none⟩ 4 W (by rw [hl]; omega) h)
  rw [hl] at HCL
  clear hl hz
  rcases hm2 with rfl | rfl | rfl
  all_goals
    go_wp2_with fail
    refine (HCL.out _ HR.out).mono ?_
    rintro e w2 ⟨a', cap', rfl, hc', hr', hb, hf⟩
    have HB2 := zH (bThen HB.out hb)
    have HR2 := zH hr'
    have HFR : Hid (∀ q, a' = some q → w.heap.size ≤ q.block) := zH (fun q hq => Nat.le_trans HB.out.size (hf q hq))
    clear hb hr' hf
    go_wp2_with fail
    go_ret
    exact ⟨a', cap', rfl, hc', HR2.out, HB2.out, HFR.out⟩

/-- The answer of ReachedBy. -/
def RcbPost (x : HT) (te : Int) (w : World) (e : Ending) (w' : World) : Prop := Below w.heap.size w w' ∧
  ((te ≠ 0 ∧ e = .returned (.tuple #[.slice none 0 0, .int .i64 te])) ∨
    (te = 0 ∧ ∃ a c l da, e = .returned (.tuple #[.slice a l.length c, .int .i64 0]) ∧ LsR w' a (l.map fun z => z.take (x.dl + 2).toNat) da ∧ SrtH l ∧ (∀ t ∈ l, StH t) ∧ (∀ t, t ∈ l ↔ ∃ es, (∀ f ∈ es, f ∈ rngL (x.lo, x.hi)) ∧ goW (nxH x) [0, 0, 0, 0] es = some t)))

set_option maxHeartbeats 1600000 in
set_option maxRecDepth 100000 in
theorem ReachedBy_any (x : HT) (w : World) : Calls Try.prog 7 #[.agg x.cells] w fun e w' => RcbPost x (testE x) w e w' := by
  have HCT := zH (fun W => CheckTest_any x W)
  have hok := @testE_zero x
  obtain ⟨te, hte⟩ : ∃ t, testE x = t := ⟨_, rfl⟩
  rw [hte] at HCT hok ⊢
  have HOK := zH hok
  clear hte hok
  go_enter Try.func7, Try.ntmps7
  go_wp2_with fail
  refine (HCT.out _).mono ?_
  rintro e w1 ⟨rfl, hb⟩
  have K0 := zH ((Blk.new w x.cells 25).to hb)
  have HB := zH (bThen (bAlloc (bSelf w) _) hb)
  clear hb HCT
  obtain ⟨-, k0, -⟩ := K0.out
  by_cases h0 : te = 0
  · subst h0
    have hx := HOK.out rfl
    have HAL := zH (fun W => hall_any x W hx)
    have HX := zH hx
    obtain ⟨m, hm⟩ : ∃ m : Nat, x.dl + 2 = (m : Int) := ⟨(x.dl + 2).toNat, by have := hx.dl1; omega⟩
    have hm2 : m = 2 ∨ m = 3 ∨ m = 4 := by have := hx.dl1; have := hx.dl2; omega
    have HM := zH hm
    have HM2 := zH hm2
    clear hx hm hm2
    go_wp2_with fail
    refine (HAL.out _).mono ?_
    rintro e w2 ⟨a, c, l, rfl, hr, hs, hst, hmem, hb⟩
    have KT := zH ((Blk.new w1 x.cells 68).to hb)
    have HB2 := zH (bThen (bAlloc HB.out _) hb)
    have HR := zH hr
    have HS := zH hs
    have HST := zH hst
    have HME := zH hmem
    have hfew : l.length ≤ 2401 := few_sth (hs.imp (fun {a b} h e => by subst e; rw [cmpL_self] at h; omega)) hst
    obtain ⟨T, hT⟩ : ∃ t, w1.heap.size = t := ⟨_, rfl⟩
    rw [hT] at KT
    have HT : Hid (T < w2.heap.size) := zH KT.out.1
    rw [hT]
    clear hr hs hst hmem hb HAL hT k0 K0
    obtain ⟨n, hn⟩ : ∃ t, l.length = t := ⟨_, rfl⟩
    have HN := zH hn
    rw [hn] at hfew HR ⊢
    clear hn
    go_wp2_with fail
    go_loopw [6, 19] (fun s6 s19 wr => ∃ (i : Nat) (va : Option Addr) (vc : Nat) (L : List (List Int)) (da : Nat → Option Addr × Nat), s6 = .slice va i vc ∧ s19 = .int .i64 i ∧ i ≤ n ∧ Hid (L = (l.take i).map fun z => z.take m) ∧ Hid (LsO wr w2.heap.size (.slice va i vc) L da) ∧ Hid (Below w2.heap.size w2 wr)) (fun _ s19 _ => n - (intOf s19).toNat)
    case atStart => exact ⟨0, none, 0, [], fun _ => (none, 0), rfl, rfl, Nat.zero_le _, zH rfl, zH (LsO.nil _ _), zH (bSelf _)⟩
    obtain ⟨i, va, vc, L, da, rfl, rfl, hi, HL, HLO, HR1⟩ := hrel
    have hL : L.length = i := by rw [HL.out, List.length_map, List.length_take]; have := HN.out; omega
    by_cases hlt : i < n
    · have hil : i < l.length := by have := HN.out; omega
      obtain ⟨z, hz⟩ : ∃ z, hg l i = z := ⟨_, rfl⟩
      have hzi : l[i] = z := by rw [← hz, hg_lt hil]
      have hzm : z ∈ l := by rw [← hzi]; exact List.getElem_mem hil
      have hzl4 := (HST.out z hzm).len
      have hzl : (z.take m).length = m := by rw [List.length_take, hzl4]; have := HM2.out; omega
      have HLI := zH (fun W => list_own x z m W HX.out hzl4 HM.out HM2.out)
      have HL2 : Hid (L ++ [z.take m] = (l.take (i + 1)).map fun z => z.take m) := zH (by rw [HL.out, List.take_succ_eq_append_getElem hil, List.map_append, hzi]; rfl)
      have HOL := zH (show wr.ownsRow w2.heap.size 26 1 (.slice va i vc) i (lcells L da) from by have := HLO.out.own; rw [hL] at this; exact this)
      have HADD := zH (fun (w3 W2 : World) (v' : Value) (a' : Option Addr) (c' : Nat) (o : Obj) (hb3 : Below wr.heap.size wr w3) (hr : Reads w3 a' (z.take m).length (ints (z.take m))) (hf : ∀ q, a' = some q → wr.heap.size ≤ q.block) (hown : W2.ownsRow w2.heap.size 26 1 v' (i + 1) (lcells L da ++ [.slice a' m c'])) (hg : (w3.alloc o).grownBy W2 (Value.slice va i vc).ownBlock) (hw : v'.ownBlock = (Value.slice va i vc).ownBlock ∨ v'.ownBlock = some (w3.alloc o).heap.size) => by
        have h1 : LsO W2 w2.heap.size v' (L ++ [z.take m]) (daA da L.length (a', c')) := by
          refine LsO.add (x := (a', c')) HLO.out (bAlloc hb3 o) (hr.alloc o) (fun q hq => ⟨hf q hq, ?_⟩) (by rw [hzl, hL]; exact hown) hg hw
          obtain ⟨b, off, e, hb, -⟩ := hr.at (k := 0) (by have := HM2.out; omega)
          rw [e] at hq
          cases hq
          simp only [World.size_alloc]
          omega
        exact (⟨h1, (HR1.out.trans ((bAlloc hb3 o).mono HR1.out.size)).grown hg (by have := hb3.size; have := HR1.out.size; simp only [World.size_alloc]; omega) (fun k e => (HLO.out.own.lt k e).1)⟩ : LsO W2 w2.heap.size v' (L ++ [z.take m]) (daA da L.length (a', c')) ∧ Below w2.heap.size w2 W2))
      obtain ⟨g, go, rfl, hgl, hgc⟩ := (HR.out.to HR1.out).at (k := i * 4) (by omega)
      have c0 : wr.cell? ⟨g, go + i * 4, none⟩ = some (.int .i64 (gi z 0)) := by have := hgc (i * 4 + 0) (by omega); rw [hsts_at _ _ _ (by omega), hz] at this; exact this
      have c1 : wr.cell? ⟨g, go + i * 4 + 1, none⟩ = some (.int .i64 (gi z 1)) := by have := hgc (i * 4 + 1) (by omega); rw [hsts_at _ _ _ (by omega), hz] at this; exact this
      have c2 : wr.cell? ⟨g, go + i * 4 + 2, none⟩ = some (.int .i64 (gi z 2)) := by have := hgc (i * 4 + 2) (by omega); rw [hsts_at _ _ _ (by omega), hz] at this; exact this
      have c3 : wr.cell? ⟨g, go + i * 4 + 3, none⟩ = some (.int .i64 (gi z 3)) := by have := hgc (i * 4 + 3) (by omega); rw [hsts_at _ _ _ (by omega), hz] at this; exact this
      obtain ⟨-, kt, -⟩ := KT.out.to HR1.out
      have kt2 : ∀ (o : Obj) (j : Nat), (wr.alloc o).cell? ⟨T, j, none⟩ = x.cells[j]? := fun o j => ((KT.out.to HR1.out).alloc o).2.1 j
      have HSW := zH HR1.out.size
      rw [hzl] at HLI
      have HZL := zH hzl
      clear hgc hz hzi hzm hzl4 hzl hil hL
      go_wp2_with fail
      clear c0 c1 c2 c3 kt kt2
      refine (HLI.out _).mono ?_
      rintro e w3 ⟨a', c', rfl, hc', hr', hb, hf⟩
      have HB3 : Hid (Below wr.heap.size wr w3) := zH (bThen (bAlloc (bSelf wr) _) hb)
      have HF : Hid (∀ q, a' = some q → wr.heap.size ≤ q.block) := zH (fun q hq => by have := hf q hq; simp only [World.size_alloc] at this; omega)
      have HR3 : Hid (Reads w3 a' (z.take m).length (ints (z.take m))) := zH (by rw [HZL.out]; exact hr')
      have HOB := zH (owns_to (owns_to HOL.out HB3.out) (bAlloc (bSelf w3) (.cells #[.slice a' m c'] 26)))
      have HNW := zH (Blk.new w3 #[.slice a' m c'] 26).news
      clear hr' hb hf hc'
      go_wp2_with (at_builtin; go_loud (refine wpList_app w2.heap.size rtLst rfl (.tmp 23) (.tmp 27) rfl _ i _ rfl HOB.out ⟨w3.heap.size, 0, none⟩ 1 1 [.slice a' m c'] rfl rfl (by simpa using HNW.out) (by intro u hu; simp only [List.mem_cons, List.not_mem_nil, or_false] at hu; subst hu; rfl) (by unfold maxLen; omega) (by omega) (by have := HB3.out.size; have := HSW.out; simp only [World.size_alloc]; omega) ?_; intro v' w4 hown' hgrow _ hwhere; have HA4 := zH (HADD.out w3 w4 v' a' c' (.cells #[.slice a' m c'] 26) HB3.out HR3.out HF.out hown' hgrow hwhere); obtain ⟨xa3, xc3, rfl⟩ := ownsRow_slH hown'; clear hown' hgrow hwhere))
      go_roundw
      case rel => exact ⟨i + 1, xa3, xc3, L ++ [z.take m], _, rfl, by go_num, by omega, HL2, zH HA4.out.1, zH HA4.out.2⟩
      case measure => simp [intOf]; omega
    · obtain rfl : n = i := by omega
      go_wp2_with fail
      go_ret2
      obtain ⟨a2, c2, e2, -, hls⟩ := HLO.out.enc
      injection e2 with ea en ec
      subst ea ec
      have hLl : L = l.map fun z => z.take m := by rw [HL.out, List.take_of_length_le (by have := HN.out; omega)]
      exact ⟨bThen HB2.out HR1.out, .inr ⟨rfl, va, vc, l, da, by rw [HN.out]; rfl, by rw [show (x.dl + 2).toNat = m by have := HM.out; omega, ← hLl]; exact hls, HS.out, HST.out, HME.out⟩⟩
  · go_wp2_with fail
    go_ret2
    exact ⟨HB.out, .inl ⟨h0, rfl⟩⟩
end
section
open Go.RowKit

/-- The answer of the search: no way out and nothing, or the least way out. -/
def SchPost (x : HT) (w : World) (e : Ending) (w' : World) : Prop := Below w.heap.size w w' ∧ ∃ mv,
  (e = .returned (.tuple #[mv, .slice none 0 0]) ∧ HldQ (nxH x) (rngL (x.lo, x.hi)) [0, 0, 0, 0]) ∨
  (∃ ad c ws, e = .returned (.tuple #[mv, .slice (some ad) ws.length c]) ∧ Reads w' (some ad) ws.length (ints ws) ∧ OutW (nxH x) (rngL (x.lo, x.hi)) [0, 0, 0, 0] ws)
/-- What is still to be shown of the search. -/
def SrchOK : Prop := ∀ (x : HT) (w : World), x.ok → Calls Try.prog 32 #[.agg x.cells] w fun e w' => SchPost x w e w'
end
section
open Go.RowKit

set_option maxRecDepth 100000 in
theorem holds_of (hS : SrchOK) (x : HT) (w : World) (hx : x.ok) : Calls Try.prog 31 #[.agg x.cells] w fun e w' => Below w.heap.size w w' ∧ ∃ b, e = .returned (.bool b) ∧ (b = true ↔ HldQ (nxH x) (rngL (x.lo, x.hi)) [0, 0, 0, 0]) := by
  have HS := zH (fun W => hS x W hx)
  clear hS hx
  have hEq : ∀ (w : World) (a : Option Addr) (n c : Nat), Sem.run Try.prog (binOp .eql 26 (.slice a n c) (.slice none 0 0)) w = .ok (.bool a.isNone) w := fun w a n c => Lib.run_eql_slice_nil w _ _ a n c 0 0 Try.underlying26
  go_enter Try.func31, Try.ntmps31
  go_wp2_with fail
  refine (HS.out _).mono ?_
  rintro e w1 ⟨hb, mv, ⟨rfl, hh⟩ | ⟨ad, c, ws, rfl, hr, ho⟩⟩
  · have HB := zH (bThen (bAlloc (bSelf w) _) hb)
    have HH := zH hh
    clear hb hh
    go_wp2_with fail
    go_ret
    exact ⟨HB.out, _, rfl, fun _ => HH.out, fun _ => rfl⟩
  · have HB := zH (bThen (bAlloc (bSelf w) _) hb)
    have HO := zH ho
    clear hb hr ho
    go_wp2_with fail
    go_ret
    exact ⟨HB.out, _, rfl, fun h => (by cases h), fun h => (HO.out.not h).elim⟩

/-- The answer of Holds. -/
def HldPost (x : HT) (te : Int) (w : World) (e : Ending) (w' : World) : Prop := Below w.heap.size w w' ∧
  ((te ≠ 0 ∧ e = .returned (.tuple #[.bool false, .int .i64 te])) ∨
    (te = 0 ∧ ∃ b, e = .returned (.tuple #[.bool b, .int .i64 0]) ∧ (b = true ↔ HldQ (nxH x) (rngL (x.lo, x.hi)) [0, 0, 0, 0])))
theorem Holds_of (hS : SrchOK) (x : HT) (w : World) : Calls Try.prog 8 #[.agg x.cells] w fun e w' => HldPost x (testE x) w e w' := by
  have HCT := zH (fun W => CheckTest_any x W)
  have hok := @testE_zero x
  have HH := zH (fun W hx => holds_of hS x W hx)
  obtain ⟨te, hte⟩ : ∃ t, testE x = t := ⟨_, rfl⟩
  rw [hte] at HCT hok ⊢
  have HOK := zH hok
  clear hte hok hS
  go_enter Try.func8, Try.ntmps8
  go_wp2_with fail
  refine (HCT.out _).mono ?_
  rintro e w1 ⟨rfl, hb⟩
  have K0 := zH ((Blk.new w x.cells 25).to hb)
  have HB := zH (bThen (bAlloc (bSelf w) _) hb)
  clear hb HCT
  obtain ⟨-, k0, -⟩ := K0.out
  by_cases h0 : te = 0
  · subst h0
    have HX := zH (HOK.out rfl)
    go_wp2_with fail
    refine (HH.out _ HX.out).mono ?_
    rintro e w2 ⟨hb, b, rfl, hh⟩
    have HB2 := zH (bThen HB.out hb)
    have HH2 := zH hh
    clear hb hh k0
    go_wp2_with fail
    go_ret2
    exact ⟨HB2.out, .inr ⟨rfl, b, rfl, HH2.out⟩⟩
  · go_wp2_with fail
    go_ret2
    exact ⟨HB.out, .inl ⟨h0, rfl⟩⟩

/-- The answer of BrokenBy. -/
def BrkPost (x : HT) (te : Int) (w : World) (e : Ending) (w' : World) : Prop := Below w.heap.size w w' ∧
  ((te ≠ 0 ∧ e = .returned (.tuple #[.slice none 0 0, .int .i64 te])) ∨
    (te = 0 ∧ e = .returned (.tuple #[.slice none 0 0, .int .i64 12]) ∧ HldQ (nxH x) (rngL (x.lo, x.hi)) [0, 0, 0, 0]) ∨
    (te = 0 ∧ ∃ ad c ws, e = .returned (.tuple #[.slice (some ad) ws.length c, .int .i64 0]) ∧ Reads w' (some ad) ws.length (ints ws) ∧ OutW (nxH x) (rngL (x.lo, x.hi)) [0, 0, 0, 0] ws))
theorem BrokenBy_of (hS : SrchOK) (x : HT) (w : World) : Calls Try.prog 9 #[.agg x.cells] w fun e w' => BrkPost x (testE x) w e w' := by
  have HCT := zH (fun W => CheckTest_any x W)
  have hok := @testE_zero x
  have HH := zH (fun W hx => hS x W hx)
  obtain ⟨te, hte⟩ : ∃ t, testE x = t := ⟨_, rfl⟩
  rw [hte] at HCT hok ⊢
  have HOK := zH hok
  clear hte hok hS
  go_enter Try.func9, Try.ntmps9
  go_wp2_with fail
  refine (HCT.out _).mono ?_
  rintro e w1 ⟨rfl, hb⟩
  have K0 := zH ((Blk.new w x.cells 25).to hb)
  have HB := zH (bThen (bAlloc (bSelf w) _) hb)
  clear hb HCT
  obtain ⟨-, k0, -⟩ := K0.out
  by_cases h0 : te = 0
  · subst h0
    have HX := zH (HOK.out rfl)
    go_wp2_with fail
    refine (HH.out _ HX.out).mono ?_
    rintro e w2 ⟨hb, mv, ⟨rfl, hh⟩ | ⟨ad, c, ws, rfl, hr, ho⟩⟩
    · have HB2 := zH (bThen HB.out hb)
      have HH2 := zH hh
      clear hb hh k0
      go_wp2_with (go_at_call 33; refine (unless_any _ _ _).mono ?_; rintro e w' ⟨rfl, rfl⟩)
      go_ret2
      exact ⟨HB2.out, .inr (.inl ⟨rfl, rfl, HH2.out⟩)⟩
    · have HB2 := zH (bThen HB.out hb)
      have HR2 := zH hr
      have HO := zH ho
      clear hb hr ho k0
      obtain ⟨n, hn⟩ : ∃ t, ws.length = t := ⟨_, rfl⟩
      have HN := zH hn
      rw [hn]
      clear hn
      go_wp2_with (go_at_call 33; refine (unless_any _ _ _).mono ?_; rintro e w' ⟨rfl, rfl⟩)
      go_ret2
      exact ⟨HB2.out, .inr (.inr ⟨rfl, ad, c, ws, by rw [HN.out]; rfl, HR2.out, HO.out⟩)⟩
  · go_wp2_with fail
    go_ret2
    exact ⟨HB.out, .inl ⟨h0, rfl⟩⟩
end
end Go.Proofs.Ytfdlhhinomjakaa
