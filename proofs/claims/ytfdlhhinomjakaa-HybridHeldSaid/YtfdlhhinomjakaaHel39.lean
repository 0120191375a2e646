/-
  Texts of this claim, in their build order: BS18.
-/
import Derived.Test.YtfdlhhinomjakaaHel27
import Derived.Test.YtfdlhhinomjakaaHel38
import Derived.Test.YtfdlhhinomjakaaHel33
import Derived.Test.YtfdlhhinomjakaaHel35
import Derived.Test.YtfdlhhinomjakaaHel0

namespace Go.Proofs.Ytfdlhhinomjakaa
section
open Go.RowKit
attribute [local go_sem] Oper.semAt_some

/-- The error of a state's next ones: so far, and at the end. -/
def opnQ (x : HT) (o : List (List Int)) (a : List Int) (pre : List Int) : Int := if pre.all (fun f => decide (nextL x a (nextV x a f) ∈ o)) then 0 else 21
def clsQ (x : HT) (o : List (List Int)) (a : List Int) (F : List Int) : Int := if F.all (fun f => inB x (nextV x a f)) then opnQ x o a F else 22
theorem opnQ_in {x : HT} {o : List (List Int)} {a pre : List Int} {f : Int} (h : nextL x a (nextV x a f) ∈ o) : opnQ x o a (pre ++ [f]) = opnQ x o a pre := by
  unfold opnQ; rw [List.all_append]; simp [h]
theorem opnQ_out {x : HT} {o : List (List Int)} {a pre : List Int} {f : Int} (h : ¬ nextL x a (nextV x a f) ∈ o) : opnQ x o a (pre ++ [f]) = 21 := by
  unfold opnQ; rw [List.all_append]; simp [h]
structure ClJ (x : HT) (o : List (List Int)) (a : List Int) (ad : Option Addr) (nz cz : Nat) (w : World) (pre : List Int) (M : Nat → Prop) (W : World) : Prop where
  k5 : Blk W w.heap.size #[.slice ad nz cz]
  k6 : Blk W (w.heap.size + 1) #[.int .i64 0]
  k7 : Blk W (w.heap.size + 1 + 1) #[.int .i64 (opnQ x o a pre)]
  inb : ∀ f ∈ pre, inB x (nextV x a f) = true
  bel : Below w.heap.size w W
  m6 : M (w.heap.size + 1)
  m7 : M (w.heap.size + 1 + 1)
  fit : ∀ k, M k → k < W.heap.size ∧ w.heap.size < k
section
variable {x : HT} {o : List (List Int)} {a : List Int} {ad : Option Addr} {nz cz : Nat} {w : World} {pre : List Int} {M : Nat → Prop} {W : World}
theorem ClJ.agree {W' : World} {BB : Nat} (h : ClJ x o a ad nz cz w pre M W) (hB : w.heap.size + 1 + 1 < BB) (hag : Agree BB M W W') : ClJ x o a ad nz cz w pre M W' :=
  ⟨h.k5.same (hag.low _ (by omega)), h.k6.same (hag.low _ (by omega)), h.k7.same (hag.low _ hB), h.inb, h.bel.trans (hag.below.mono (by omega)), h.m6, h.m7, fun k hk => ⟨Nat.lt_of_lt_of_le (h.fit k hk).1 hag.size, (h.fit k hk).2⟩⟩
theorem ClJ.to {W' : World} (h : ClJ x o a ad nz cz w pre M W) (hb : Below W.heap.size W W') : ClJ x o a ad nz cz w pre M W' :=
  ⟨h.k5.to hb, h.k6.to hb, h.k7.to hb, h.inb, bThen h.bel hb, h.m6, h.m7, fun k hk => ⟨Nat.lt_of_lt_of_le (h.fit k hk).1 hb.size, (h.fit k hk).2⟩⟩
theorem ClJ.inn {f : Int} (h : ClJ x o a ad nz cz w pre M W) (hi : inB x (nextV x a f) = true) (hm : nextL x a (nextV x a f) ∈ o) : ClJ x o a ad nz cz w (pre ++ [f]) M W :=
  ⟨h.k5, h.k6, by rw [opnQ_in hm]; exact h.k7, fun g hg => by
    rcases List.mem_append.1 hg with hg | hg
    · exact h.inb g hg
    · have : g = f := by simpa using hg
      subst this; exact hi, h.bel, h.m6, h.m7, h.fit⟩
theorem ClJ.out {f : Int} (h : ClJ x o a ad nz cz w pre M W) (hi : inB x (nextV x a f) = true) (hm : ¬ nextL x a (nextV x a f) ∈ o) : ClJ x o a ad nz cz w (pre ++ [f]) M (W.setCell ⟨w.heap.size + 1 + 1, 0, none⟩ (.int .i64 21)) := by
  refine ⟨h.k5.other (p := ⟨w.heap.size + 1 + 1, 0, none⟩) (by dsimp only; omega) _, h.k6.other (p := ⟨w.heap.size + 1 + 1, 0, none⟩) (by dsimp only; omega) _, ?_, fun g hg => ?_, h.bel.setCell (p := ⟨w.heap.size + 1 + 1, 0, none⟩) (by dsimp only; omega) _, h.m6, h.m7, fun k hk => ⟨by have := (h.fit k hk).1; simpa [World.setCell] using this, (h.fit k hk).2⟩⟩
  · rw [opnQ_out hm]
    have := h.k7.set 0 (.int .i64 21)
    exact this
  · rcases List.mem_append.1 hg with hg | hg
    · exact h.inb g hg
    · have : g = f := by simpa using hg
      subst this; exact hi
end
/-- A look that leaves: a next state is out of the bound. -/
def ClX (x : HT) (a : List Int) (w : World) (c : Code) (pre : List Int) (W : World) : Prop := c = .ret ∧ (∃ f ∈ pre, inB x (nextV x a f) = false) ∧ Blk W (w.heap.size + 1) #[.int .i64 22] ∧ Below w.heap.size w W
theorem ClX.put {x : HT} {a : List Int} {w : World} {c : Code} {pre : List Int} {W : World} {k : Nat} {o : Obj} {BB : Nat} (h : ClX x a w c pre W) (hB : w.heap.size + 1 + 1 < BB) (hk : BB ≤ k) : ClX x a w c pre (W.putObj k o) := by
  obtain ⟨hc, h1, h2, h3⟩ := h
  have hag : Below k W (W.putObj k o) := ⟨rfl, rfl, rfl, by simp, fun j hj => World.putObj_heap_other (by omega)⟩
  exact ⟨hc, h1, h2.same (World.putObj_heap_other (by omega)), h3.trans (hag.mono (by omega))⟩
theorem clsQ_out {x : HT} {o : List (List Int)} {a F : List Int} (h : ∃ f ∈ F, inB x (nextV x a f) = false) : clsQ x o a F = 22 := by
  unfold clsQ
  rw [if_neg]
  intro hh
  obtain ⟨f, hf, e⟩ := h
  have := List.all_eq_true.1 hh f hf
  rw [e] at this; cases this

set_option maxHeartbeats 6400000 in
set_option maxRecDepth 100000 in
theorem cc2_any (x : HT) (zs : List Int) (o : List (List Int)) (ad : Option Addr) (cz p7 p8 m n k : Nat) (w : World) (hx : x.ok) (hs : StH (p4 zs)) (h7 : Blk w p7 x.cells) (h8 : Blk w p8 #[.map (some m)]) (hm : MapV w m n (setF o)) (hr : Reads w ad zs.length (ints zs)) :
    Calls Try.prog 40 (#[.int .i64 k, .slice ad zs.length cz] ++ #[.pointer (some ⟨p7, 0, none⟩), .pointer (some ⟨p8, 0, none⟩)]) w
      fun e w' => e = .returned (.int .i64 (clsQ x o (p4 zs) (rngL (x.lo, x.hi)))) ∧ Below w.heap.size w w' := by
  have HSO := zH (fun W hr => stateOf_g zs ad cz W hr)
  have HR := zH hr
  have H7 := zH h7
  have H8 := zH h8
  have HM := zH hm
  have hz0 : ∀ W, (zeroValue 83).run Try.prog W = .ok (.agg #[]) W := zeroU
  have HF1 := zH (fun f (hf : f ∈ rngL (x.lo, x.hi)) => (show -1000 ≤ f ∧ f ≤ 1000 from by
    have h1 := rngL_mem.1 hf
    have := hx.lo1
    have := hx.hi2
    dsimp only at h1
    omega))
  have HL4 : Hid (l4 zs = l4 (p4 zs)) := zH rfl
  rw [HL4.out] at HSO
  obtain ⟨nz, hnz⟩ : ∃ q, zs.length = q := ⟨_, rfl⟩
  rw [hnz] at HR HSO ⊢
  obtain ⟨a, ha⟩ : ∃ q, p4 zs = q := ⟨_, rfl⟩
  rw [ha] at hs HSO ⊢
  clear hr h7 h8 hm hz0 HL4 hnz ha
  refine (callsIn_wide (n := 5)).1 ?_
  refine callsIn_of_wp_marks Try.func40 rfl trivial ?_ rfl
  simp only [Try.ntmps40, List.size_toArray, List.length_cons, List.length_nil, Nat.reduceAdd, Nat.reduceSub, Array.replicate_succ, Array.replicate_zero, List.push_toArray, List.append_toArray, List.nil_append, List.cons_append]
  obtain ⟨-, k7, -⟩ := H7.out.to (bAlloc (bAlloc (bAlloc (bSelf w) (.cells #[.slice ad nz cz] 26)) (.cells #[.int .i64 0] 31)) (.cells #[.int .i64 0] 31))
  gi_wp2_with fail
  clear k7
  obtain ⟨w3, hw3⟩ : ∃ u, ((w.alloc (.cells #[.slice ad nz cz] 26)).alloc (.cells #[.int .i64 0] 31)).alloc (.cells #[.int .i64 0] 31) = u := ⟨_, rfl⟩
  rw [hw3]
  have HB3 : Hid (Below w.heap.size w w3) := by subst hw3; exact zH (bAlloc (bAlloc (bAlloc (bSelf _) _) _) _)
  have hz3 : w3.heap.size = w.heap.size + 1 + 1 + 1 := by subst hw3; simp
  have HJ0 : Hid (ClJ x o a ad nz cz w [] (fun k => k = w.heap.size + 1 ∨ k = w.heap.size + 1 + 1) w3) := by
    refine zH ⟨?_, ?_, ?_, fun f hf => (by cases hf), HB3.out, .inl rfl, .inr rfl, fun k hk => (by rcases hk with rfl | rfl <;> omega)⟩
    · subst hw3; exact ((Blk.new _ _ _).alloc _).alloc _
    · subst hw3; exact (Blk.newAt _ _ _ (by simp)).alloc _
    · subst hw3; exact Blk.newAt _ _ _ (by simp)
  clear hw3
  refine wpIn_rangeFunc_B (xs := rngL (x.lo, x.hi)) rfl (by intro args w; go_simp) (forces_in 4 x w3 hx) (bSelf _) (fun _ => rfl) (fun _ h => h.elim)
    (fun pre M1 W => ClJ x o a ad nz cz w pre M1 W) (fun c pre W => ClX x a w c pre W) (fun k => k = w.heap.size + 1 ∨ k = w.heap.size + 1 + 1) (fun k hk => ⟨by rcases hk with rfl | rfl <;> omega, fun h => h.elim⟩)
    (fun pre M1 W1 W2 h hag => h.agree (by omega) hag) (fun c pre W1 l o h hl ho => h.put (by omega) hl)
    (fun b pre f M1 a₁ W => ClJ x o a ad nz cz w pre M1 W ∧ a₁ = { tmps := (b.tmps.setIfInBounds 15 (.int .i64 f)).setIfInBounds 8 (.int .i64 f), defers := [] })
    ?hI1 HJ0.out ?hassign ?hbody ?hdone ?hstop
  case hI1 =>
    rintro pre f M1 a₁ Wa Wb ⟨h, rfl⟩ hag
    exact ⟨h.agree (by omega) hag, rfl⟩
  case hassign =>
    intro l pre f rest M1 Wa hxs hI hszA
    gi_wp2_with fail
    exact ⟨M1, ⟨hI, rfl⟩, Upd.refl (fun k hk => (hI.fit k hk).1)⟩
  case hbody =>
    rintro l pre f rest M1 a₁ Wa hxs ⟨hJ, rfl⟩ hszA
    simp only [zzT, zzO, zzS]
    have hfm : f ∈ rngL (x.lo, x.hi) := by rw [hxs]; simp
    obtain ⟨hf1, hf2⟩ := HF1.out f hfm
    have HNX := zH (fun W => nextH_any x a f W hx hs hf1 hf2)
    have HKY := zH (nextH_key hx hs hf1 hf2)
    have HJ := zH hJ
    have HWA : Hid (Below w.heap.size w Wa) := zH hJ.bel
    have HIN := zH (fun (W : World) (h : ClJ x o a ad nz cz w pre M1 W) h1 h2 => h.inn (f := f) h1 h2)
    have HOU := zH (fun (W : World) (h : ClJ x o a ad nz cz w pre M1 W) h1 h2 => h.out (f := f) h1 h2)
    have HXX := zH (fun (h : inB x (nextV x a f) = false) => (show ∃ g ∈ pre ++ [f], inB x (nextV x a g) = false from ⟨f, by simp, h⟩))
    obtain ⟨is, his⟩ : ∃ b, inB x (nextV x a f) = b := ⟨_, rfl⟩
    obtain ⟨t, ht⟩ : ∃ t, nextL x a (nextV x a f) = t := ⟨_, rfl⟩
    rw [his, ht] at HNX HIN HOU
    rw [ht] at HKY
    rw [his] at HXX
    clear his ht hJ hxs hfm
    gi_wp2_with fail
    refine wpIn_region_tree (by kernel_rfl) (by kernel_rfl) (by rintro ⟨_, _, h⟩; exact h) (fun wd hwd => ?_)
    have T := zH hwd
    clear hwd
    refine WTq 0 ?_; apply Exists.intro; refine ⟨fun w1 hb1 => ?_, ?_⟩; (focus (((obtain ⟨-, k7, -⟩ := H7.out.to (bThen HWA.out (T.out.trans hb1))); have hb1 := zH hb1; go_simp); (try (go_bits; try go_simp)); (try (rw [if_pos (by omega)]; try go_simp)); (first | done | (with_reducible rfl) | exact rfl)))
    simp only [Act.put, zzT, zzO, zzS]
    refine WTq 1 ?_; apply Exists.intro; refine ⟨fun w1 hb1 => ?_, ?_⟩; (focus (((obtain ⟨-, k5, -⟩ := (HJ.out.to (T.out.trans hb1)).k5); have hb1 := zH hb1; go_simp); (try (go_bits; try go_simp)); (try (rw [if_pos (by omega)]; try go_simp)); (first | done | (with_reducible rfl) | exact rfl)))
    simp only [Act.put, zzT, zzO, zzS]
    refine WTq 3 ?_; apply Exists.intro; refine ⟨fun w1 hb1 => ?_, ?_⟩; (focus ((have hb1 := zH hb1; go_simp); (try (go_bits; try go_simp)); (try (rw [if_pos (by omega)]; try go_simp)); (first | done | (with_reducible rfl) | exact rfl)))
    simp only [Act.put, zzT, zzO, zzS]
    refine WT_two 2 8 rfl rfl (by kernel_rfl) ?_ ?_
    · unfold stepT
      go_wp2_with fail
      refine (HSO.out _ (HR.out.to (bThen HWA.out T.out))).mono ?_
      rintro e u101 ⟨rfl, hb⟩
      have hbd := zH (hb.mono T.out.size)
      replace T := zH (bThen T.out hb)
      clear hb
      go_wp2_with fail
      refine ⟨hbd.out, ?_⟩
      clear hbd
      refine WT_two 4 8 rfl rfl (by kernel_rfl) ?_ ?_
      · unfold stepT
        go_wp2_with fail
        refine (HNX.out _).mono ?_
        rintro e u102 ⟨rfl, hb⟩
        have hbd := zH (hb.mono T.out.size)
        replace T := zH (bThen T.out hb)
        clear hb
        go_wp2_with fail
        refine ⟨hbd.out, ?_⟩
        clear hbd
        refine WTq 5 ?_; apply Exists.intro; refine ⟨fun w1 hb1 => ?_, ?_⟩; (focus ((have hb1 := zH hb1; go_simp); (try (go_bits; try go_simp)); (try (rw [if_pos (by omega)]; try go_simp)); (first | done | (with_reducible rfl) | exact rfl)))
        simp only [Act.put, zzT, zzO, zzS]
        refine WTq 6 ?_; apply Exists.intro; refine ⟨fun w1 hb1 => ?_, ?_⟩; (focus ((have hb1 := zH hb1; go_simp); (try (go_bits; try go_simp)); (try (rw [if_pos (by omega)]; try go_simp)); (first | done | (with_reducible rfl) | exact rfl)))
        simp only [Act.put, zzT, zzO, zzS]
        refine WTq 7 ?_; apply Exists.intro; refine ⟨fun w1 hb1 => ?_, ?_⟩; (focus ((have hb1 := zH hb1; go_simp); (try (go_bits; try go_simp)); (try (rw [if_pos (by omega)]; try go_simp)); (first | done | (with_reducible rfl) | exact rfl)))
        simp only [Act.put, zzT, zzO, zzS]
        refine WT_one 8 rfl (by kernel_rfl) ?_
        unfold stepT
        go_wp2_with fail
        obtain ⟨u103, hwA⟩ : ∃ wA, u102.alloc (.cells #[.int .i64 0, .int .i64 0, .int .i64 0, .int .i64 0] 72) = wA := ⟨_, rfl⟩
        rw [hwA]
        have hb : Below u102.heap.size u102 u103 := by subst hwA; exact bAlloc (bSelf _) _
        have KBN : Hid (Blk u103 u102.heap.size #[.int .i64 0, .int .i64 0, .int .i64 0, .int .i64 0]) := by subst hwA; exact Blk.new _ _ _
        clear hwA
        have BNN : Hid (Wa.heap.size ≤ u102.heap.size) := zH T.out.size
        obtain ⟨BN, hBN⟩ : ∃ N, u102.heap.size = N := ⟨_, rfl⟩
        have hbd := zH (hb.mono T.out.size)
        replace T := zH (bThen T.out hb)
        clear hb
        rw [hBN] at KBN BNN ⊢
        clear hBN
        refine ⟨hbd.out, ?_⟩
        clear hbd
        refine WT_one 9 rfl (by kernel_rfl) ?_
        unfold stepT
        obtain ⟨-, kx, fx⟩ := KBN.out
        go_wp2_with fail
        clear kx fx
        obtain ⟨u104, hu⟩ : ∃ u, st4 u103 BN (.int .i64 (gi t 0)) (.int .i64 (gi t 1)) (.int .i64 (gi t 2)) (.int .i64 (gi t 3)) = u := ⟨_, rfl⟩
        have hb := below_st4 u103 BNN.out (.int .i64 (gi t 0)) (.int .i64 (gi t 1)) (.int .i64 (gi t 2)) (.int .i64 (gi t 3))
        have h2 := KBN.out.st4 (.int .i64 (gi t 0)) (.int .i64 (gi t 1)) (.int .i64 (gi t 2)) (.int .i64 (gi t 3))
        rw [hu] at hb h2
        unfold st4 at hu
        rw [hu]
        replace KBN := zH h2
        clear h2 hu
        replace T := zH (T.out.trans hb)
        refine ⟨hb, ?_⟩
        clear hb
        refine WTq 10 ?_; apply Exists.intro; refine ⟨fun w1 hb1 => ?_, ?_⟩; (focus ((have hb1 := zH hb1; go_simp); (try (go_bits; try go_simp)); (try (rw [if_pos (by omega)]; try go_simp)); (first | done | (with_reducible rfl) | exact rfl)))
        simp only [Act.put, zzT, zzO, zzS]
        refine WT_done (by kernel_rfl) ?_
        have HU := zH (Upd.of_below (fun k hk => (HJ.out.fit k hk).1) T.out)
        replace HWA := zH (bThen HWA.out T.out)
        replace HJ := zH (HJ.out.to T.out)
        clear T
        obtain ⟨wq, hwq⟩ : ∃ z, z = u104 := ⟨_, rfl⟩
        subst hwq
        obtain ⟨-, k8, -⟩ := H8.out.to HWA.out
        obtain ⟨-, kn, -⟩ := KBN.out
        cases is
        case false =>
          clear k8 kn
          obtain ⟨-, k6, f6⟩ := HJ.out.k6
          gi_wp2_with fail
          refine ⟨M1, ⟨rfl, HXX.out (by first | rfl | trivial), ?_, HJ.out.bel.setCell (p := ⟨w.heap.size + 1, 0, none⟩) (by dsimp only; omega) _⟩, HU.out.trans (Upd.setCell (fun k hk => (HJ.out.fit k hk).1) ⟨w.heap.size + 1, 0, none⟩ (.int .i64 22) HJ.out.m6)⟩
          have := HJ.out.k6.set 0 (.int .i64 22)
          exact this
        case true =>
          by_cases hin : t ∈ o
          · have hask' : (Instr.lookup seT (.map (some m)) (.agg #[.int .i64 (gi t 0), .int .i64 (gi t 1), .int .i64 (gi t 2), .int .i64 (gi t 3)]) true).run Try.prog wq = .ok (.tuple #[.agg #[], .bool true]) wq := by
              have hask := (HM.out.to HWA.out).askOk undSe (zeroU _) HKY.out
              rw [setF_val, setF_is, decide_eq_true hin] at hask
              exact hask
            have HFIN := zH (HIN.out _ (HJ.out.to (bAlloc (bSelf wq) (.cells #[] 83))) (by first | rfl | trivial) hin)
            clear hin
            gi_wp2_with fail
            exact ⟨M1, HFIN.out, HU.out.trans (Upd.of_below (fun k hk => (HJ.out.fit k hk).1) (bAlloc (bSelf _) _))⟩
          · have hask' : (Instr.lookup seT (.map (some m)) (.agg #[.int .i64 (gi t 0), .int .i64 (gi t 1), .int .i64 (gi t 2), .int .i64 (gi t 3)]) true).run Try.prog wq = .ok (.tuple #[.agg #[], .bool false]) wq := by
              have hask := (HM.out.to HWA.out).askOk undSe (zeroU _) HKY.out
              rw [setF_val, setF_is, decide_eq_false hin] at hask
              exact hask
            have HJz := zH (HJ.out.to (bAlloc (bSelf wq) (.cells #[] 83)))
            have HFIN := zH (HOU.out _ HJz.out (by first | rfl | trivial) hin)
            obtain ⟨-, k7, f7⟩ := HJz.out.k7
            clear hin
            gi_wp2_with fail
            exact ⟨M1, HFIN.out, HU.out.trans ((Upd.of_below (fun k hk => (HJ.out.fit k hk).1) (bAlloc (bSelf _) _)).trans (Upd.setCell (fun k hk => (HJz.out.fit k hk).1) ⟨w.heap.size + 1 + 1, 0, none⟩ (.int .i64 21) HJ.out.m7))⟩
      · unfold stepT
        go_wp2_with fail
        obtain ⟨u102, hwA⟩ : ∃ wA, u101.alloc (.cells #[.int .i64 0, .int .i64 0, .int .i64 0, .int .i64 0] 72) = wA := ⟨_, rfl⟩
        rw [hwA]
        have hb : Below u101.heap.size u101 u102 := by subst hwA; exact bAlloc (bSelf _) _
        have KBN : Hid (Blk u102 u101.heap.size #[.int .i64 0, .int .i64 0, .int .i64 0, .int .i64 0]) := by subst hwA; exact Blk.new _ _ _
        clear hwA
        have BNN : Hid (Wa.heap.size ≤ u101.heap.size) := zH T.out.size
        obtain ⟨BN, hBN⟩ : ∃ N, u101.heap.size = N := ⟨_, rfl⟩
        have hbd := zH (hb.mono T.out.size)
        replace T := zH (bThen T.out hb)
        clear hb
        rw [hBN] at KBN BNN ⊢
        clear hBN
        refine ⟨hbd.out, ?_⟩
        clear hbd
        refine WT_one 4 rfl (by kernel_rfl) ?_
        unfold stepT
        go_wp2_with fail
        refine (HNX.out _).mono ?_
        rintro e u103 ⟨rfl, hb⟩
        replace KBN := zH (KBN.out.to hb)
        have hbd := zH (hb.mono T.out.size)
        replace T := zH (bThen T.out hb)
        clear hb
        go_wp2_with fail
        refine ⟨hbd.out, ?_⟩
        clear hbd
        refine WTq 5 ?_; apply Exists.intro; refine ⟨fun w1 hb1 => ?_, ?_⟩; (focus ((have hb1 := zH hb1; go_simp); (try (go_bits; try go_simp)); (try (rw [if_pos (by omega)]; try go_simp)); (first | done | (with_reducible rfl) | exact rfl)))
        simp only [Act.put, zzT, zzO, zzS]
        refine WTq 6 ?_; apply Exists.intro; refine ⟨fun w1 hb1 => ?_, ?_⟩; (focus ((have hb1 := zH hb1; go_simp); (try (go_bits; try go_simp)); (try (rw [if_pos (by omega)]; try go_simp)); (first | done | (with_reducible rfl) | exact rfl)))
        simp only [Act.put, zzT, zzO, zzS]
        refine WTq 7 ?_; apply Exists.intro; refine ⟨fun w1 hb1 => ?_, ?_⟩; (focus ((have hb1 := zH hb1; go_simp); (try (go_bits; try go_simp)); (try (rw [if_pos (by omega)]; try go_simp)); (first | done | (with_reducible rfl) | exact rfl)))
        simp only [Act.put, zzT, zzO, zzS]
        refine WT_one 9 rfl (by kernel_rfl) ?_
        unfold stepT
        obtain ⟨-, kx, fx⟩ := KBN.out
        go_wp2_with fail
        clear kx fx
        obtain ⟨u104, hu⟩ : ∃ u, st4 u103 BN (.int .i64 (gi t 0)) (.int .i64 (gi t 1)) (.int .i64 (gi t 2)) (.int .i64 (gi t 3)) = u := ⟨_, rfl⟩
        have hb := below_st4 u103 BNN.out (.int .i64 (gi t 0)) (.int .i64 (gi t 1)) (.int .i64 (gi t 2)) (.int .i64 (gi t 3))
        have h2 := KBN.out.st4 (.int .i64 (gi t 0)) (.int .i64 (gi t 1)) (.int .i64 (gi t 2)) (.int .i64 (gi t 3))
        rw [hu] at hb h2
        unfold st4 at hu
        rw [hu]
        replace KBN := zH h2
        clear h2 hu
        replace T := zH (T.out.trans hb)
        refine ⟨hb, ?_⟩
        clear hb
        refine WTq 10 ?_; apply Exists.intro; refine ⟨fun w1 hb1 => ?_, ?_⟩; (focus ((have hb1 := zH hb1; go_simp); (try (go_bits; try go_simp)); (try (rw [if_pos (by omega)]; try go_simp)); (first | done | (with_reducible rfl) | exact rfl)))
        simp only [Act.put, zzT, zzO, zzS]
        refine WT_done (by kernel_rfl) ?_
        have HU := zH (Upd.of_below (fun k hk => (HJ.out.fit k hk).1) T.out)
        replace HWA := zH (bThen HWA.out T.out)
        replace HJ := zH (HJ.out.to T.out)
        clear T
        obtain ⟨wq, hwq⟩ : ∃ z, z = u104 := ⟨_, rfl⟩
        subst hwq
        obtain ⟨-, k8, -⟩ := H8.out.to HWA.out
        obtain ⟨-, kn, -⟩ := KBN.out
        cases is
        case false =>
          clear k8 kn
          obtain ⟨-, k6, f6⟩ := HJ.out.k6
          gi_wp2_with fail
          refine ⟨M1, ⟨rfl, HXX.out (by first | rfl | trivial), ?_, HJ.out.bel.setCell (p := ⟨w.heap.size + 1, 0, none⟩) (by dsimp only; omega) _⟩, HU.out.trans (Upd.setCell (fun k hk => (HJ.out.fit k hk).1) ⟨w.heap.size + 1, 0, none⟩ (.int .i64 22) HJ.out.m6)⟩
          have := HJ.out.k6.set 0 (.int .i64 22)
          exact this
        case true =>
          by_cases hin : t ∈ o
          · have hask' : (Instr.lookup seT (.map (some m)) (.agg #[.int .i64 (gi t 0), .int .i64 (gi t 1), .int .i64 (gi t 2), .int .i64 (gi t 3)]) true).run Try.prog wq = .ok (.tuple #[.agg #[], .bool true]) wq := by
              have hask := (HM.out.to HWA.out).askOk undSe (zeroU _) HKY.out
              rw [setF_val, setF_is, decide_eq_true hin] at hask
              exact hask
            have HFIN := zH (HIN.out _ (HJ.out.to (bAlloc (bSelf wq) (.cells #[] 83))) (by first | rfl | trivial) hin)
            clear hin
            gi_wp2_with fail
            exact ⟨M1, HFIN.out, HU.out.trans (Upd.of_below (fun k hk => (HJ.out.fit k hk).1) (bAlloc (bSelf _) _))⟩
          · have hask' : (Instr.lookup seT (.map (some m)) (.agg #[.int .i64 (gi t 0), .int .i64 (gi t 1), .int .i64 (gi t 2), .int .i64 (gi t 3)]) true).run Try.prog wq = .ok (.tuple #[.agg #[], .bool false]) wq := by
              have hask := (HM.out.to HWA.out).askOk undSe (zeroU _) HKY.out
              rw [setF_val, setF_is, decide_eq_false hin] at hask
              exact hask
            have HJz := zH (HJ.out.to (bAlloc (bSelf wq) (.cells #[] 83)))
            have HFIN := zH (HOU.out _ HJz.out (by first | rfl | trivial) hin)
            obtain ⟨-, k7, f7⟩ := HJz.out.k7
            clear hin
            gi_wp2_with fail
            exact ⟨M1, HFIN.out, HU.out.trans ((Upd.of_below (fun k hk => (HJ.out.fit k hk).1) (bAlloc (bSelf _) _)).trans (Upd.setCell (fun k hk => (HJz.out.fit k hk).1) ⟨w.heap.size + 1 + 1, 0, none⟩ (.int .i64 21) HJ.out.m7))⟩
    · unfold stepT
      go_wp2_with fail
      obtain ⟨u101, hwA⟩ : ∃ wA, wd.alloc (.cells #[.int .i64 0, .int .i64 0, .int .i64 0, .int .i64 0] 72) = wA := ⟨_, rfl⟩
      rw [hwA]
      have hb : Below wd.heap.size wd u101 := by subst hwA; exact bAlloc (bSelf _) _
      have KBN : Hid (Blk u101 wd.heap.size #[.int .i64 0, .int .i64 0, .int .i64 0, .int .i64 0]) := by subst hwA; exact Blk.new _ _ _
      clear hwA
      have BNN : Hid (Wa.heap.size ≤ wd.heap.size) := zH T.out.size
      obtain ⟨BN, hBN⟩ : ∃ N, wd.heap.size = N := ⟨_, rfl⟩
      have hbd := zH (hb.mono T.out.size)
      replace T := zH (bThen T.out hb)
      clear hb
      rw [hBN] at KBN BNN ⊢
      clear hBN
      refine ⟨hbd.out, ?_⟩
      clear hbd
      refine WT_one 2 rfl (by kernel_rfl) ?_
      unfold stepT
      go_wp2_with fail
      refine (HSO.out _ (HR.out.to (bThen HWA.out T.out))).mono ?_
      rintro e u102 ⟨rfl, hb⟩
      replace KBN := zH (KBN.out.to hb)
      have hbd := zH (hb.mono T.out.size)
      replace T := zH (bThen T.out hb)
      clear hb
      go_wp2_with fail
      refine ⟨hbd.out, ?_⟩
      clear hbd
      refine WT_one 4 rfl (by kernel_rfl) ?_
      unfold stepT
      go_wp2_with fail
      refine (HNX.out _).mono ?_
      rintro e u103 ⟨rfl, hb⟩
      replace KBN := zH (KBN.out.to hb)
      have hbd := zH (hb.mono T.out.size)
      replace T := zH (bThen T.out hb)
      clear hb
      go_wp2_with fail
      refine ⟨hbd.out, ?_⟩
      clear hbd
      refine WTq 5 ?_; apply Exists.intro; refine ⟨fun w1 hb1 => ?_, ?_⟩; (focus ((have hb1 := zH hb1; go_simp); (try (go_bits; try go_simp)); (try (rw [if_pos (by omega)]; try go_simp)); (first | done | (with_reducible rfl) | exact rfl)))
      simp only [Act.put, zzT, zzO, zzS]
      refine WTq 6 ?_; apply Exists.intro; refine ⟨fun w1 hb1 => ?_, ?_⟩; (focus ((have hb1 := zH hb1; go_simp); (try (go_bits; try go_simp)); (try (rw [if_pos (by omega)]; try go_simp)); (first | done | (with_reducible rfl) | exact rfl)))
      simp only [Act.put, zzT, zzO, zzS]
      refine WTq 7 ?_; apply Exists.intro; refine ⟨fun w1 hb1 => ?_, ?_⟩; (focus ((have hb1 := zH hb1; go_simp); (try (go_bits; try go_simp)); (try (rw [if_pos (by omega)]; try go_simp)); (first | done | (with_reducible rfl) | exact rfl)))
      simp only [Act.put, zzT, zzO, zzS]
      refine WT_one 9 rfl (by kernel_rfl) ?_
      unfold stepT
      obtain ⟨-, kx, fx⟩ := KBN.out
      go_wp2_with fail
      clear kx fx
      obtain ⟨u104, hu⟩ : ∃ u, st4 u103 BN (.int .i64 (gi t 0)) (.int .i64 (gi t 1)) (.int .i64 (gi t 2)) (.int .i64 (gi t 3)) = u := ⟨_, rfl⟩
      have hb := below_st4 u103 BNN.out (.int .i64 (gi t 0)) (.int .i64 (gi t 1)) (.int .i64 (gi t 2)) (.int .i64 (gi t 3))
      have h2 := KBN.out.st4 (.int .i64 (gi t 0)) (.int .i64 (gi t 1)) (.int .i64 (gi t 2)) (.int .i64 (gi t 3))
      rw [hu] at hb h2
      unfold st4 at hu
      rw [hu]
      replace KBN := zH h2
      clear h2 hu
      replace T := zH (T.out.trans hb)
      refine ⟨hb, ?_⟩
      clear hb
      refine WTq 10 ?_; apply Exists.intro; refine ⟨fun w1 hb1 => ?_, ?_⟩; (focus ((have hb1 := zH hb1; go_simp); (try (go_bits; try go_simp)); (try (rw [if_pos (by omega)]; try go_simp)); (first | done | (with_reducible rfl) | exact rfl)))
      simp only [Act.put, zzT, zzO, zzS]
      refine WT_done (by kernel_rfl) ?_
      have HU := zH (Upd.of_below (fun k hk => (HJ.out.fit k hk).1) T.out)
      replace HWA := zH (bThen HWA.out T.out)
      replace HJ := zH (HJ.out.to T.out)
      clear T
      obtain ⟨wq, hwq⟩ : ∃ z, z = u104 := ⟨_, rfl⟩
      subst hwq
      obtain ⟨-, k8, -⟩ := H8.out.to HWA.out
      obtain ⟨-, kn, -⟩ := KBN.out
      cases is
      case false =>
        clear k8 kn
        obtain ⟨-, k6, f6⟩ := HJ.out.k6
        gi_wp2_with fail
        refine ⟨M1, ⟨rfl, HXX.out (by first | rfl | trivial), ?_, HJ.out.bel.setCell (p := ⟨w.heap.size + 1, 0, none⟩) (by dsimp only; omega) _⟩, HU.out.trans (Upd.setCell (fun k hk => (HJ.out.fit k hk).1) ⟨w.heap.size + 1, 0, none⟩ (.int .i64 22) HJ.out.m6)⟩
        have := HJ.out.k6.set 0 (.int .i64 22)
        exact this
      case true =>
        by_cases hin : t ∈ o
        · have hask' : (Instr.lookup seT (.map (some m)) (.agg #[.int .i64 (gi t 0), .int .i64 (gi t 1), .int .i64 (gi t 2), .int .i64 (gi t 3)]) true).run Try.prog wq = .ok (.tuple #[.agg #[], .bool true]) wq := by
            have hask := (HM.out.to HWA.out).askOk undSe (zeroU _) HKY.out
            rw [setF_val, setF_is, decide_eq_true hin] at hask
            exact hask
          have HFIN := zH (HIN.out _ (HJ.out.to (bAlloc (bSelf wq) (.cells #[] 83))) (by first | rfl | trivial) hin)
          clear hin
          gi_wp2_with fail
          exact ⟨M1, HFIN.out, HU.out.trans (Upd.of_below (fun k hk => (HJ.out.fit k hk).1) (bAlloc (bSelf _) _))⟩
        · have hask' : (Instr.lookup seT (.map (some m)) (.agg #[.int .i64 (gi t 0), .int .i64 (gi t 1), .int .i64 (gi t 2), .int .i64 (gi t 3)]) true).run Try.prog wq = .ok (.tuple #[.agg #[], .bool false]) wq := by
            have hask := (HM.out.to HWA.out).askOk undSe (zeroU _) HKY.out
            rw [setF_val, setF_is, decide_eq_false hin] at hask
            exact hask
          have HJz := zH (HJ.out.to (bAlloc (bSelf wq) (.cells #[] 83)))
          have HFIN := zH (HOU.out _ HJz.out (by first | rfl | trivial) hin)
          obtain ⟨-, k7, f7⟩ := HJz.out.k7
          clear hin
          gi_wp2_with fail
          exact ⟨M1, HFIN.out, HU.out.trans ((Upd.of_below (fun k hk => (HJ.out.fit k hk).1) (bAlloc (bSelf _) _)).trans (Upd.setCell (fun k hk => (HJz.out.fit k hk).1) ⟨w.heap.size + 1 + 1, 0, none⟩ (.int .i64 21) HJ.out.m7))⟩
  case hdone =>
    intro D M1 Wd hD hMD hI hdef
    have HJ := zH hI
    have HCQ : Hid (clsQ x o a (rngL (x.lo, x.hi)) = opnQ x o a (rngL (x.lo, x.hi))) := zH (by unfold clsQ; rw [if_pos (List.all_eq_true.2 (fun f hf => hI.inb f hf))])
    have HMK := zH (Marks.cons (Marks.nil w3) (Marks.nil Wd) hD hdef)
    obtain ⟨-, k6, f6⟩ := hI.k6
    obtain ⟨-, k7, -⟩ := hI.k7
    clear hI hdef hMD
    obtain ⟨ov, hov⟩ : ∃ q, opnQ x o a (rngL (x.lo, x.hi)) = q := ⟨_, rfl⟩
    rw [hov] at k7 HCQ
    clear hov
    gi_wp2_with fail
    obtain ⟨We, hWe⟩ : ∃ u, Wd.setCell ⟨w.heap.size + 1, 0, none⟩ (.int .i64 ov) = u := ⟨_, rfl⟩
    rw [hWe]
    have K6 : Hid (Blk We (w.heap.size + 1) #[.int .i64 ov]) := by
      subst hWe
      have := HJ.out.k6.set 0 (.int .i64 ov)
      exact zH this
    have HB : Hid (Below w.heap.size w We) := by subst hWe; exact zH (HJ.out.bel.setCell (p := ⟨w.heap.size + 1, 0, none⟩) (by dsimp only; omega) _)
    have HMK2 : Hid (Marks [{ target := .collected D, args := #[] }] We) := by
      subst hWe
      refine zH (HMK.out.same (fun D' hD' => ?_))
      obtain ⟨d, hd, e⟩ := hD'
      have : d = { target := .collected D, args := #[] } := by simpa using hd
      subst this
      injection e with e
      exact Below.heap_setCell _ _ _ _ (by dsimp only; omega)
    clear hWe k6 f6 k7 HMK HJ
    refine leaves_marks [{ target := .collected D, args := #[] }] We HMK2.out (fun w9 hsame hsz hos htp hou => ?_)
    have hlo : ∀ k, k < D → w9.heap[k]? = We.heap[k]? := fun k hk => hsame k (fun d hm e => by
      have : d = { target := .collected D, args := #[] } := by simpa using hm
      subst this
      injection e with e
      omega)
    have k6 := (K6.out.same (hlo _ (by omega))).2.1
    refine ⟨.int .i64 ov, ?_, ?_⟩
    · simp [results, Try.results40, go_sem, k6]
    · exact ⟨by rw [HCQ.out], ⟨hos.trans HB.out.os, htp.trans HB.out.tape, hou.trans HB.out.output, by rw [hsz]; exact HB.out.size, fun k hk => (hlo k (by omega)).trans (HB.out.block k hk)⟩⟩
  case hstop =>
    rintro D c pre f rest Wd hD hxs ⟨rfl, hex, hk6, hb⟩ hdef
    have HCQ : Hid (clsQ x o a (rngL (x.lo, x.hi)) = 22) := zH (clsQ_out (by obtain ⟨g, hg, e⟩ := hex; exact ⟨g, by rw [hxs, List.append_cons]; exact List.mem_append_left _ hg, e⟩))
    have HMK := zH (Marks.cons (Marks.nil w3) (Marks.nil Wd) hD hdef)
    have K6 := zH hk6
    have HB := zH hb
    clear hex hk6 hb hdef hxs
    gi_wp2_with fail
    refine leaves_marks [{ target := .collected D, args := #[] }] Wd HMK.out (fun w9 hsame hsz hos htp hou => ?_)
    have hlo : ∀ k, k < D → w9.heap[k]? = Wd.heap[k]? := fun k hk => hsame k (fun d hm e => by
      have : d = { target := .collected D, args := #[] } := by simpa using hm
      subst this
      injection e with e
      omega)
    have k6 := (K6.out.same (hlo _ (by omega))).2.1
    refine ⟨.int .i64 22, ?_, ?_⟩
    · simp [results, Try.results40, go_sem, k6]
    · exact ⟨by rw [HCQ.out], ⟨hos.trans HB.out.os, htp.trans HB.out.tape, hou.trans HB.out.output, by rw [hsz]; exact HB.out.size, fun k hk => (hlo k (by omega)).trans (HB.out.block k hk)⟩⟩
end
end Go.Proofs.Ytfdlhhinomjakaa
