/-
  Texts of this claim, in their build order: A10 B1.
-/
import Derived.Test.YtfdlhhinomjakaaHel9
import Derived.Test.YtfdlhhinomjakaaHel0

namespace Go.Proofs.Ytfdlhhinomjakaa
section
open Go.RowKit
attribute [local go_sem] Oper.semAt_some

/-- What the body of ErrorOf's loop has made. b: the first block of the loop's own variables; S: the heap's size where the loop begins. -/
structure ErrI (x : HT) (off : Int) (w : World) (b S : Nat) (pre : List (List Int × List Int)) (M : Nat → Prop) (W : World) : Prop where
  sum : Blk W (b + 1) #[.int .i64 (sumE (stepErr x) pre)]
  wide : Blk W (b + 2) #[.int .i64 (sumE (stepWide off) pre)]
  m1 : M (b + 1)
  m2 : M (b + 2)
  fit : ∀ k, M k → k < W.heap.size ∧ (k = b + 1 ∨ k = b + 2 ∨ S ≤ k)
  k0 : Blk W w.heap.size x.cells
  k1 : Blk W (w.heap.size + 1) #[.int .i64 off]
  k2 : Blk W (w.heap.size + 2) #[.int .i64 0, .int .i64 0]
  k9 : Blk W b x.cells
  below : Below w.heap.size w W

theorem ErrI.agree {x : HT} {off : Int} {w : World} {b S : Nat} {pre : List (List Int × List Int)} {M : Nat → Prop} {W1 W2 : World} (h : ErrI x off w b S pre M W1) (hag : Agree S M W1 W2) (hb : w.heap.size + 3 ≤ b) (hS : b < S) : ErrI x off w b S pre M W2 :=
  ⟨h.sum.agree hag (.inl h.m1), h.wide.agree hag (.inl h.m2), h.m1, h.m2, fun k hk => ⟨Nat.lt_of_lt_of_le (h.fit k hk).1 hag.size, (h.fit k hk).2⟩,
    h.k0.agree hag (.inr (by omega)), h.k1.agree hag (.inr (by omega)), h.k2.agree hag (.inr (by omega)), h.k9.agree hag (.inr (by omega)), h.below.trans (hag.below.mono (by omega))⟩
theorem ErrI.more {x : HT} {off : Int} {w : World} {b S : Nat} {pre : List (List Int × List Int)} {M M' : Nat → Prop} {W : World} (h : ErrI x off w b S pre M W) (h1 : ∀ k, M k → M' k) (h2 : ∀ k, M' k → k < W.heap.size ∧ (k = b + 1 ∨ k = b + 2 ∨ S ≤ k)) : ErrI x off w b S pre M' W :=
  ⟨h.sum, h.wide, h1 _ h.m1, h1 _ h.m2, h2, h.k0, h.k1, h.k2, h.k9, h.below⟩

theorem ErrI.next {x : HT} {off : Int} {w : World} {b S : Nat} {pre : List (List Int × List Int)} {s : List Int × List Int} {M : Nat → Prop} {W W1 : World} (h : ErrI x off w b S pre M W) (hb1 : Below W.heap.size W W1) (hb : w.heap.size + 3 ≤ b) (hS : b + 5 ≤ S) {v1 v2 : Int}
    (h1 : v1 = sumE (stepErr x) (pre ++ [s])) (h2 : v2 = sumE (stepWide off) (pre ++ [s])) :
    ErrI x off w b S (pre ++ [s]) M ((W1.setCell ⟨b + 1, 0, none⟩ (.int .i64 v1)).setCell ⟨b + 1 + 1, 0, none⟩ (.int .i64 v2)) ∧ Upd M M W ((W1.setCell ⟨b + 1, 0, none⟩ (.int .i64 v1)).setCell ⟨b + 1 + 1, 0, none⟩ (.int .i64 v2)) := by
  have hu1 := Upd.of_below (fun k hk => (h.fit k hk).1) hb1
  have hu2 := Upd.setCell hu1.fit ⟨b + 1, 0, none⟩ (.int .i64 v1) h.m1
  have hu3 := Upd.setCell hu2.fit ⟨b + 1 + 1, 0, none⟩ (.int .i64 v2) h.m2
  have hu := (hu1.trans hu2).trans hu3
  have hn : ∀ k, k < b + 1 → ¬ M k := fun k hk hm => by rcases (h.fit k hm).2 with h | h | h <;> omega
  subst h1 h2
  refine ⟨⟨?_, ?_, h.m1, h.m2, fun k hk => ⟨hu.fit k hk, (h.fit k hk).2⟩, h.k0.upd hu (hn _ (by omega)), h.k1.upd hu (hn _ (by omega)), h.k2.upd hu (hn _ (by omega)), h.k9.upd hu (hn _ (by omega)), h.below.trans (hu.below (by have := h.k2.1; omega) (fun k hk => by rcases (h.fit k hk).2 with h | h | h <;> omega))⟩, hu⟩
  · exact ((h.sum.to hb1).set 0 _).other (p := ⟨b + 1 + 1, 0, none⟩) (by dsimp only; omega) _
  · exact ((h.wide.to hb1).other (p := ⟨b + 1, 0, none⟩) (by dsimp only; omega) _).set 0 _

theorem stepWay_bd {s : List Int × List Int} (h : StepOk s) : -200003 ≤ stepWay s ∧ stepWay s ≤ 200003 := by
  have := h.st.l1; have := h.st.u1; have := h.lo; have := h.hi
  unfold stepWay; omega
theorem stepErr_bd {x : HT} {s : List Int × List Int} (hx : x.ok) (h : StepOk s) : -(18000 * 200003) ≤ stepErr x s ∧ stepErr x s ≤ 18000 * 200003 := by
  have hc := cmdV_bd x _ _ _ _ hx h.st
  rw [← four s.1 h.len] at hc
  have := h.st.l0; have := h.st.u0
  have hw := stepWay_bd h
  have h1 := mul_bd (a := x.s) (b := cmdV x s.1 x.dl.toNat - gi s.1 0) (A := 1000) (B := 18) (by have := hx.s1; omega) hx.s2 (by omega) (by omega)
  exact mul_bd (a := x.s * (cmdV x s.1 x.dl.toNat - gi s.1 0)) (b := stepWay s) (A := 18000) (B := 200003) (by omega) (by omega) hw.1 hw.2
theorem stepWide_bd {off : Int} {s : List Int × List Int} (h0 : 0 ≤ off) (h1 : off ≤ 1000) (h : StepOk s) : -(1000 * 200003) ≤ stepWide off s ∧ stepWide off s ≤ 1000 * 200003 := by
  have hw := stepWay_bd h
  have h2 := sizeI_bd hw.1 hw.2
  exact mul_bd (a := off) (b := sizeI (stepWay s)) (A := 1000) (B := 200003) (by omega) h1 (by omega) h2.2

set_option maxHeartbeats 1600000 in
set_option maxRecDepth 100000 in
theorem ErrorOf_ok (x : HT) (zs : List Int) (a : Option Addr) (cap : Nat) (off : Int) (w : World) (hlen : zs.length ≤ maxLen) (hr : Reads w a zs.length (ints zs)) (he : errE x zs off = 0) :
    Calls Try.prog 22 #[.agg x.cells, .slice a zs.length cap, .int .i64 off] w fun e w' => e = .returned (.tuple #[.agg #[.int .i64 (sumE (stepErr x) (stepsL x [0, 0, 0, 0] zs) - sumE (stepWide off) (stepsL x [0, 0, 0, 0] zs)), .int .i64 (sumE (stepErr x) (stepsL x [0, 0, 0, 0] zs) + sumE (stepWide off) (stepsL x [0, 0, 0, 0] zs))], .int .i64 0]) ∧ Below w.heap.size w w' := by
  have hne : (errE x zs off != 0) = false := by simpa using he
  obtain ⟨hx, hfew, hz, hoff⟩ := errE_zero he
  have OFF := zH hoff
  clear hoff
  clear he
  have HZ := zH hz
  have HOK := zH (stepsL_ok x hx zs 0 0 0 0 ⟨by omega, by omega, by omega, by omega, by omega, by omega, by omega, by omega⟩ hz)
  clear hz
  have HLEN := zH (stepsL_len x zs [0, 0, 0, 0])
  have hR := zH hr
  clear hr
  refine (callsIn_wide (n := 5)).1 ?_
  refine callsIn_of_wp_marks Try.func22 rfl trivial ?_ rfl
  simp only [Try.ntmps22, List.size_toArray, List.length_cons, List.length_nil, Nat.reduceAdd, Nat.reduceSub, Array.replicate_succ, Array.replicate_zero, List.push_toArray, List.append_toArray, List.nil_append, List.cons_append]
  gi_wp2_with fail
  obtain ⟨W, hW⟩ : ∃ W, ((w.alloc (.cells x.cells 25)).alloc (.cells #[.int .i64 off] 3)).alloc (.cells #[.int .i64 0, .int .i64 0] 23) = W := ⟨_, rfl⟩
  rw [hW]
  have K0 : Hid (Blk W w.heap.size x.cells) := by subst hW; exact ((Blk.new _ _ _).alloc _).alloc _
  have K1 : Hid (Blk W (w.heap.size + 1) #[.int .i64 off]) := by subst hW; exact (Blk.newAt _ _ _ (by simp)).alloc _
  have K2 : Hid (Blk W (w.heap.size + 2) #[.int .i64 0, .int .i64 0]) := by subst hW; exact Blk.newAt _ _ _ (by simp)
  have HB : Hid (Below w.heap.size w W) := by subst hW; exact bAlloc (bAlloc (bAlloc (bSelf w) _) _) _
  replace hR : Hid (Reads W a zs.length (ints zs)) := by subst hW; exact ((hR.out.alloc _).alloc _).alloc _
  clear hW
  refine wpIn_wide.2 ?_
  refine wp_region_quiet_tail 8 (fun w' => Below (World.heap W).size (W) w') (by kernel_rfl) (by kernel_rfl) (Below.refl _ _).drew ?_
  simp only [List.take_succ_cons, List.take_zero, List.drop_succ_cons, List.drop_zero]
  repeat (first | (refine wpQuiet_no (by rfl) ?_; (simp only [Act.put, zzT, zzO, zzS])) | (refine wpQuiet_yes (by rfl) ?_; apply Exists.intro; refine ⟨fun w1 hb1 => ?_, ?_⟩; (focus (((obtain ⟨-, k0, -⟩ := K0.out.to hb1; obtain ⟨-, k1, -⟩ := K1.out.to hb1); have hb1 := zH hb1; go_simp); (try (go_bits; try go_simp)); (first | done | ((first | (go_at_call 28; refine (CheckTest_any x _).mono ?_; rintro e w' ⟨rfl, hb⟩; exact ⟨rfl, bThen hb1.out hb⟩) | (go_at_call 45; refine (forcesErr_any x zs a cap _ hlen (hR.out.to hb1.out)).mono ?_; rintro e w' ⟨rfl, hb⟩; exact ⟨rfl, bThen hb1.out hb⟩) | (go_at_call 44; refine (within_any _ _ _ _).mono ?_; rintro e w' ⟨rfl, rfl⟩; exact ⟨rfl, hb1.out⟩) | (go_at_call 33; refine (unless_any _ _ _).mono ?_; rintro e w' ⟨rfl, rfl⟩; exact ⟨rfl, hb1.out⟩))) | (with_reducible rfl) | exact rfl))); (simp only [Act.put, zzT, zzO, zzS])))
  refine wpQuiet_nil ?_
  intro w1 hb1
  have hb1 := zH hb1
  go_wp2_with fail
  refine (first3_new _ _ _ _ _ (by simp)).mono ?_
  rintro e w' ⟨rfl, rfl⟩
  have e1 : firstE [testE x, forcesE x zs, unl (decide (0 ≤ off) && decide (off ≤ 1000)) 2] = errE x zs off := rfl
  rw [e1]
  clear e1
  obtain ⟨W2, hW2⟩ : ∃ W2, w1.alloc (.cells #[.int .i64 (testE x), .int .i64 (forcesE x zs), .int .i64 (unl (decide (0 ≤ off) && decide (off ≤ 1000)) 2)] 31) = W2 := ⟨_, rfl⟩
  rw [hW2]
  replace K0 : Hid (Blk W2 w.heap.size x.cells) := by subst hW2; exact (K0.out.to hb1.out).alloc _
  replace K1 : Hid (Blk W2 (w.heap.size + 1) #[.int .i64 off]) := by subst hW2; exact (K1.out.to hb1.out).alloc _
  replace K2 : Hid (Blk W2 (w.heap.size + 2) #[.int .i64 0, .int .i64 0]) := by subst hW2; exact (K2.out.to hb1.out).alloc _
  replace HB : Hid (Below w.heap.size w W2) := by subst hW2; exact bAlloc (bThen HB.out hb1.out) _
  replace hR : Hid (Reads W2 a zs.length (ints zs)) := by subst hW2; exact (hR.out.to hb1.out).alloc _
  clear hW2
  obtain ⟨hsz, k0, -⟩ := K0.out
  go_wp2_with fail
  gi_wp2_with fail
  refine ⟨trivial, (callsIn_wide.2 (steps_any x a zs.length cap _)).mono ?_⟩
  rintro e w' ⟨rfl, rfl⟩
  obtain ⟨W3, hW3⟩ : ∃ W3, ((((W2.alloc (.cells x.cells 68)).alloc (.cells #[.int .i64 0] 3)).alloc (.cells #[.int .i64 0] 3)).alloc (.cells x.cells 68)).alloc (.cells #[.slice a zs.length cap] 26) = W3 := ⟨_, rfl⟩
  rw [hW3]
  have hsz3 : W3.heap.size = W2.heap.size + 5 := by subst hW3; simp
  have hsz2 : w.heap.size + 3 ≤ W2.heap.size := by have := K2.out.1; omega
  have KX : Hid (Blk W3 (W2.heap.size + 3) x.cells) := by subst hW3; exact (Blk.newAt _ _ _ (by simp)).alloc _
  have KZ : Hid (Blk W3 (W2.heap.size + 4) #[.slice a zs.length cap]) := by subst hW3; exact Blk.newAt _ _ _ (by simp)
  have HO : Hid (ErrI x off w W2.heap.size W3.heap.size [] (fun k => k = W2.heap.size + 1 ∨ k = W2.heap.size + 2) W3) := by
    refine zH ⟨?_, ?_, .inl rfl, .inr rfl, fun k hk => ⟨by rcases hk with rfl | rfl <;> omega, by rcases hk with rfl | rfl <;> omega⟩, ?_, ?_, ?_, ?_, ?_⟩
    · subst hW3; exact (((Blk.newAt _ _ _ (by simp)).alloc _).alloc _).alloc _
    · subst hW3; exact ((Blk.newAt _ _ _ (by simp)).alloc _).alloc _
    · subst hW3; exact ((((K0.out.alloc _).alloc _).alloc _).alloc _).alloc _
    · subst hW3; exact ((((K1.out.alloc _).alloc _).alloc _).alloc _).alloc _
    · subst hW3; exact ((((K2.out.alloc _).alloc _).alloc _).alloc _).alloc _
    · subst hW3; exact ((((Blk.new _ _ _).alloc _).alloc _).alloc _).alloc _
    · subst hW3; exact bAlloc (bAlloc (bAlloc (bAlloc (bAlloc HB.out _) _) _) _) _
  have hRlt := hR
  replace hR : Hid (Reads W3 a zs.length (ints zs)) := by subst hW3; exact ((((hR.out.alloc _).alloc _).alloc _).alloc _).alloc _
  clear hW3 k0
  have hsz3' : W2.heap.size + 5 ≤ W3.heap.size := by omega
  have HS3 := zH hsz3
  clear hsz3
  gi_wp2_with fail
  refine wpIn_rangeFunc_M (xs := stepsL x [0, 0, 0, 0] zs) rfl (by intro args w; go_simp) (steps1_in 4 x zs a cap (W2.heap.size + 3) (W2.heap.size + 4) W3 hx HZ.out hlen KX.out KZ.out hR.out) (bSelf _) (fun _ => rfl) ?hRd
    (ErrI x off w W2.heap.size W3.heap.size) (fun _ _ _ => False) (fun k => k = W2.heap.size + 1 ∨ k = W2.heap.size + 2) ?hM (fun _ _ _ _ h hag => h.agree hag (by omega) (by omega)) (fun _ _ _ _ _ h _ _ => h)
    (fun b pre s M1 a₁ W => ErrI x off w W2.heap.size W3.heap.size pre M1 W ∧ ∃ bs, Blk W bs (stepC s) ∧ M1 bs ∧ bs ≠ W2.heap.size + 1 ∧ bs ≠ W2.heap.size + 2 ∧ a₁ = { tmps := (b.tmps.setIfInBounds 33 (.agg (stepC s))).setIfInBounds 12 (.pointer (some ⟨bs, 0, none⟩)), defers := [] })
    ?hI1 HO.out ?hassign ?hbody ?hdone (fun _ _ _ _ _ _ _ _ h _ => h.elim)
  case hRd =>
    rintro k (rfl | rfl | ⟨h0, off, e⟩)
    · omega
    · omega
    · obtain ⟨b', off', e', h, -⟩ := hR.out.at (k := 0) h0
      rw [e] at e'; cases e'; exact h
  case hM =>
    intro k hk
    refine ⟨by rcases hk with rfl | rfl <;> omega, ?_⟩
    rintro (rfl | rfl | ⟨h0, off, e⟩)
    · rcases hk with h | h <;> omega
    · rcases hk with h | h <;> omega
    · obtain ⟨b', off', e', h, -⟩ := hRlt.out.at (k := 0) h0
      rw [e] at e'; cases e'
      rcases hk with rfl | rfl <;> omega
  case hI1 =>
    rintro pre s M1 a₁ Wa Wb ⟨hI, bs, hbs, hMb, hne', hne2, rfl⟩ hag
    exact ⟨hI.agree hag (by omega) (by omega), bs, hbs.agree hag (.inl hMb), hMb, hne', hne2, rfl⟩
  case hassign =>
    intro l pre s rest M1 Wa hxs hI hszA
    gi_wp2_with fail
    have hu := Upd.alloc (fun k hk => (hI.fit k hk).1) (W := Wa) (M := M1) (.cells (stepC s) 94)
    refine ⟨_, ⟨(hI.agree (Agree.of_below (bAlloc (bSelf Wa) (.cells (stepC s) 94)) hszA) (by omega) (by omega)).more (fun k hk => .inl hk) (fun k hk => ⟨hu.fit k hk, by rcases hk with hk | hk; exact (hI.fit k hk).2; omega⟩), Wa.heap.size, Blk.new _ _ _, .inr rfl, by omega, by omega, rfl⟩, hu⟩
  case hbody =>
    rintro l pre s rest M1 a₁ Wa hxs ⟨hI, bs, hbs, hMb, hne', hne2, rfl⟩ hszA
    simp only [zzT, zzO, zzS]
    have hlen2 : pre.length < 60 := by
      have h1 := HLEN.out
      rw [hxs] at h1
      simp only [List.length_append, List.length_cons] at h1
      omega
    have hok := HOK.out s (by rw [hxs]; simp)
    have hpre : ∀ s' ∈ pre, StepOk s' := fun s' hs' => HOK.out s' (by rw [hxs]; exact List.mem_append_left _ hs')
    have hst := hok.st
    have HST := zH hok
    obtain ⟨l0, u0, l1, u1, -, -, -, -⟩ := hst
    have lo := hok.lo
    have hi := hok.hi
    obtain ⟨off0, off1⟩ := OFF.out
    have hc := cmdV_bd x _ _ _ _ hx hok.st
    obtain ⟨c1, c2⟩ := hc
    have s1 := sum_bd (f := stepErr x) pre (fun s' hs' => stepErr_bd hx (hpre s' hs'))
    have s2 := sum_bd (f := stepWide off) pre (fun s' hs' => stepWide_bd off0 off1 (hpre s' hs'))
    obtain ⟨s1a, s1b⟩ := s1
    obtain ⟨s2a, s2b⟩ := s2
    clear hpre hok
    have p1 := mul_bd (a := x.s) (b := cmdV x [gi s.1 0, gi s.1 1, gi s.1 2, gi s.1 3] x.dl.toNat - gi s.1 0) (A := 1000) (B := 18) (by have := hx.s1; omega) hx.s2 (by omega) (by omega)
    obtain ⟨p1a, p1b⟩ := p1
    obtain ⟨wv, hwv⟩ : ∃ wv, stepWay s = wv := ⟨_, rfl⟩
    have hwv' : gi s.2 0 - gi s.1 1 = wv := hwv
    have wa : -200003 ≤ wv := by omega
    have wb : wv ≤ 200003 := by omega
    have p2 := mul_bd (a := x.s * (cmdV x [gi s.1 0, gi s.1 1, gi s.1 2, gi s.1 3] x.dl.toNat - gi s.1 0)) (b := wv) (A := 18000) (B := 200003) (by omega) (by omega) wa wb
    obtain ⟨p2a, p2b⟩ := p2
    have p3 := mul_bd (a := off) (b := wv) (A := 1000) (B := 200003) (by omega) off1 wa wb
    obtain ⟨p3a, p3b⟩ := p3
    have p4 := mul_bd (a := off) (b := -wv) (A := 1000) (B := 200003) (by omega) off1 (by omega) (by omega)
    obtain ⟨p4a, p4b⟩ := p4
    have HWV := zH hwv'
    have HWS := zH hwv
    have HSS := zH (show x.s * (cmdV x [gi s.1 0, gi s.1 1, gi s.1 2, gi s.1 3] x.dl.toNat - gi s.1 0) * wv = stepErr x s by rw [← hwv]; unfold stepErr; rw [← four s.1 HST.out.len])
    clear hwv hwv'
    have HBS := zH hbs
    obtain ⟨-, kb, -⟩ := hbs
    have HI := zH hI
    clear hI
    have HMB := zH hMb
    clear hMb hxs
    gi_wp2_with fail
    rw [HWV.out]
    clear kb
    refine wpIn_region_quiet_tail 15 (fun w' => Below (World.heap Wa).size (Wa) w') (by kernel_rfl) (by kernel_rfl) (by kernel_rfl) (by rintro ⟨_, _, h⟩; exact h) (Below.refl _ _).drew ?_
    simp only [List.take_succ_cons, List.take_zero, List.drop_succ_cons, List.drop_zero]
    repeat (first | (refine wpQuiet_no (by rfl) ?_; (simp only [Act.put, zzT, zzO, zzS])) | (refine wpQuiet_yes (by rfl) ?_; apply Exists.intro; refine ⟨fun w1 hb1 => ?_, ?_⟩; (focus (((obtain ⟨-, q0, -⟩ := HI.out.k0.to hb1; obtain ⟨-, q9, -⟩ := HI.out.k9.to hb1; obtain ⟨-, qs, -⟩ := HI.out.sum.to hb1; obtain ⟨-, qb, -⟩ := HBS.out.to hb1); have hb1 := zH hb1; go_simp); (try (go_bits; try go_simp)); (first | done | (((go_at_call 47); refine (actuators_any x _ _ _ _ _ hx HST.out.st).mono ?_; rintro e w' ⟨rfl, hb⟩; exact ⟨rfl, bThen hb1.out hb⟩)) | (with_reducible rfl) | exact rfl))); (simp only [Act.put, zzT, zzO, zzS])))
    refine wpQuiet_nil ?_
    intro w1 hb1
    obtain ⟨-, qs, qsf⟩ := HI.out.sum.to hb1
    obtain ⟨-, qw, qwf⟩ := HI.out.wide.to hb1
    obtain ⟨-, qo, -⟩ := HI.out.k1.to hb1
    have hb1 := zH hb1
    go_wp2_with fail
    gi_wp2_with fail
    all_goals
      refine ⟨M1, HI.out.next hb1.out hsz2 hsz3' (by rw [sumE_snoc, ← HSS.out]) ?_⟩
      rw [sumE_snoc]
      have e1 : 0 ≤ wv → stepWide off s = off * wv := fun h => by unfold stepWide sizeI; rw [HWS.out]; congr 1; omega
      have e2 : wv ≤ 0 → stepWide off s = -(off * wv) := fun h => by unfold stepWide sizeI; rw [HWS.out, ← Int.mul_neg]; congr 1; omega
      try rw [Int.mul_neg]
      have g1 : wrap64 (off * wv) = off * wv := IntWalk.wrap64_in _ (by omega)
      have g2 : wrap64 (-(off * wv)) = -(off * wv) := IntWalk.wrap64_in _ (by omega)
      first | rw [g2] | rw [g1]
      clear g1 g2
      rw [IntWalk.wrap64_in _ (by omega)]
      generalize stepWide off s = sw at *
      generalize off * wv = ow at *
      generalize sumE (stepWide off) pre = so at *
      omega
  case hdone =>
    intro D M1 Wd hD hMD hI hdef
    have s1 := sum_bd (f := stepErr x) (stepsL x [0, 0, 0, 0] zs) (fun s' hs' => stepErr_bd hx (HOK.out s' hs'))
    have s2 := sum_bd (f := stepWide off) (stepsL x [0, 0, 0, 0] zs) (fun s' hs' => stepWide_bd OFF.out.1 OFF.out.2 (HOK.out s' hs'))
    have hl := HLEN.out
    obtain ⟨s1a, s1b⟩ := s1
    obtain ⟨s2a, s2b⟩ := s2
    obtain ⟨-, qs, -⟩ := hI.sum
    obtain ⟨-, qw, -⟩ := hI.wide
    obtain ⟨-, qr, qrf⟩ := hI.k2
    have HI := zH hI
    have HD := zH hdef
    clear hI hdef
    gi_wp2_with fail
    refine ⟨by simp, .inl ⟨_, _, rfl, run_takeDeferred ?hdef, ?_⟩⟩
    case hdef =>
      have : w.heap.size + 2 < D := by omega
      rw [Below.heap_setCell _ _ _ _ (by dsimp only; omega), Below.heap_setCell _ _ _ _ (by dsimp only; omega)]
      exact HD.out
    have F := ((HI.out.k2.set 0 (.int .i64 (sumE (stepErr x) (stepsL x [0, 0, 0, 0] zs) - sumE (stepWide off) (stepsL x [0, 0, 0, 0] zs)))).set 1 (.int .i64 (sumE (stepErr x) (stepsL x [0, 0, 0, 0] zs) + sumE (stepWide off) (stepsL x [0, 0, 0, 0] zs)))).agree (B := W3.heap.size) (M := fun _ => False) (Agree.putObj _ D (.deferred none) hD (fun h => h)) (.inr (by omega))
    have F0 := F.2.1 0
    have F1 := F.2.1 1
    have HF := zH F
    clear F qs qw qr qrf
    refine ⟨.tuple #[.agg #[.int .i64 (sumE (stepErr x) (stepsL x [0, 0, 0, 0] zs) - sumE (stepWide off) (stepsL x [0, 0, 0, 0] zs)), .int .i64 (sumE (stepErr x) (stepsL x [0, 0, 0, 0] zs) + sumE (stepWide off) (stepsL x [0, 0, 0, 0] zs))], .int .i64 0], ?_, rfl, ?_⟩
    · simp [results, Try.results22, go_sem, F0, F1]
    · exact (((HI.out.below.setCell (p := ⟨w.heap.size + 2, 0, none⟩) (by dsimp only; omega) _).setCell (p := ⟨w.heap.size + 2, 1, none⟩) (by dsimp only; omega) _)).trans ((Below.refl _ _).grown (grownBy_putObj' _ D _) (by have := HI.out.below.size; simp [World.setCell]; omega) (fun k e => by cases e; omega))
end
section
open Go.RowKit

/-- A state as the reference has it. -/
structure RSt (x : HT) (st : List Int) : Prop where
  len : (st.length : Int) = x.dl + 2
  bd : ∀ i, -3 ≤ gi st i ∧ gi st i ≤ 3
end
end Go.Proofs.Ytfdlhhinomjakaa
