/-
  Texts of this claim, in their build order: BS5.
-/
import Derived.Test.YtfdlhhinomjakaaHel36
import Derived.Test.YtfdlhhinomjakaaHel41
import Derived.Test.YtfdlhhinomjakaaHel38
import Derived.Test.YtfdlhhinomjakaaHel22
import Derived.Test.YtfdlhhinomjakaaHel0

namespace Go.Proofs.Ytfdlhhinomjakaa
section
open Go.RowKit
attribute [local go_sem] Oper.semAt_some

/-- The number that a variable's box holds. -/
def boxN (v : Value) (w : World) : Nat := match v with
  | .pointer (some a) => (intOf ((w.cell? a).getD (.int .i64 0))).toNat
  | _ => 0
theorem boxN_blk {w : World} {b : Nat} {i : Nat} (h : Blk w b #[.int .i64 (i : Int)]) : boxN (.pointer (some ⟨b, 0, none⟩)) w = i := by
  unfold boxN
  dsimp only
  rw [h.2.1 0]
  simp [intOf]
/-- A round's state: the forces of pre are done. -/
structure AllJ (x : HT) (o : List (List Int)) (i n0 S B5 : Nat) (w : World) (ds : List Deferred) (v : Value) (M : Nat → Prop) (W : World) : Prop where
  mem : AllM x o n0 S v W
  k5 : Blk W B5 #[.int .i64 (i : Int)]
  bel : Below n0 w W
  mks : Marks ds W
  mv : ∀ k, v.ownBlock = some k → M k
  mm : M (n0 + 1)
  m4 : M (S + 1 + 1)
  n1 : ¬ M n0
  n3 : ¬ M S
  n5 : ¬ M B5
  nd : ∀ D, (∃ d ∈ ds, d.target = .collected D) → ¬ M D
  fit : ∀ k, M k → k < W.heap.size ∧ n0 ≤ k
theorem AllJ.agree {x : HT} {o : List (List Int)} {i n0 S B5 : Nat} {w : World} {ds : List Deferred} {v : Value} {M : Nat → Prop} {W W' : World} {B : Nat} (h : AllJ x o i n0 S B5 w ds v M W) (hag : Agree B M W W') (hS : S < B) (h5 : B5 < B) (hd : ∀ D, (∃ d ∈ ds, d.target = .collected D) → D < B) : AllJ x o i n0 S B5 w ds v M W' :=
  ⟨h.mem.agree hag hS h.mm h.m4 h.mv, h.k5.agree hag (.inr h5), h.bel.trans (hag.below.mono (by have := h.mem.lt; omega)), h.mks.same (fun D hD => hag.low D (hd D hD)), h.mv, h.mm, h.m4, h.n1, h.n3, h.n5, h.nd, fun k hk => ⟨Nat.lt_of_lt_of_le (h.fit k hk).1 hag.size, (h.fit k hk).2⟩⟩
theorem AllJ.to {x : HT} {o : List (List Int)} {i n0 S B5 : Nat} {w : World} {ds : List Deferred} {v : Value} {M : Nat → Prop} {W W' : World} (h : AllJ x o i n0 S B5 w ds v M W) (hb : Below W.heap.size W W') : AllJ x o i n0 S B5 w ds v M W' :=
  ⟨h.mem.to hb, h.k5.to hb, h.bel.trans (hb.mono (by have := h.mem.k1.1; omega)), h.mks.to hb, h.mv, h.mm, h.m4, h.n1, h.n3, h.n5, h.nd, fun k hk => ⟨Nat.lt_of_lt_of_le (h.fit k hk).1 hb.size, (h.fit k hk).2⟩⟩
theorem ownsRow_slH {W : World} {n₀ : Nat} {e : TypeId} {s : Nat} {v : Value} {n : Nat} {xs : List Value} (h : W.ownsRow n₀ e s v n xs) : ∃ a c, v = .slice a n c := by
  rcases h.2 with ⟨e, h0⟩ | ⟨g, cap', cur, e, -⟩
  · cases e; rw [h0]; exact ⟨_, _, rfl⟩
  · cases e; exact ⟨_, _, rfl⟩
theorem onesH (t : List Int) : ∀ u ∈ [Value.int .i64 (gi t 0), .int .i64 (gi t 1), .int .i64 (gi t 2), .int .i64 (gi t 3)], u.oneCell' = true := by
  intro u hu
  simp only [List.mem_cons, List.not_mem_nil, or_false] at hu
  rcases hu with h | h | h | h <;> rw [h] <;> rfl
/-- One more state. -/
theorem AllJ.add {x : HT} {o : List (List Int)} {i n0 S B5 : Nat} {w : World} {ds : List Deferred} {v v' : Value} {M : Nat → Prop} {W W1 W3 : World} {t : List Int} {ob : Obj} (h : AllJ x o i n0 S B5 w ds v M W)
    (hmap : MapV W1 (n0 + 1) (o.length + 1) (fun z => if z = t then some (.agg #[]) else setF o z)) (hg1 : W.grownBy W1 (some (n0 + 1)))
    (hown : W3.ownsRow (S + 1) stH 4 v' (o.length + 1) (hcells o ++ [.int .i64 (gi t 0), .int .i64 (gi t 1), .int .i64 (gi t 2), .int .i64 (gi t 3)])) (hg2 : (W1.alloc ob).grownBy W3 v.ownBlock) (hw : v'.ownBlock = v.ownBlock ∨ v'.ownBlock = some (W1.alloc ob).heap.size) :
    ∃ M', AllJ x (o ++ [t]) i n0 S B5 w ds v' M' (W3.setCell ⟨S + 1 + 1, 0, none⟩ v') ∧ Upd M M' W (W3.setCell ⟨S + 1 + 1, 0, none⟩ v') := by
  obtain ⟨h1, hu⟩ := h.mem.add (fun k hk => (h.fit k hk).1) h.mm h.m4 h.mv hmap hg1 hown hg2 hw
  have hno : ∀ b, ¬ M b → b < W.heap.size → ¬ (M b ∨ v'.ownBlock = some b) := fun b hb hlt hm => (hu.grow b hm).elim hb (fun h2 => by omega)
  have hS := h.mem.lt
  refine ⟨_, ⟨h1, h.k5.upd hu h.n5, h.bel.trans (hu.below (by have := h.mem.k1.1; omega) (fun k hk => (h.fit k hk).2)), h.mks.same (fun D hD => hu.same D (h.mks.lt hD) (h.nd D hD)), fun k hk => .inr hk, .inl h.mm, .inl h.m4, hno _ h.n1 h.mem.k1.1, hno _ h.n3 h.mem.k3.1, hno _ h.n5 h.k5.1, fun D hD => hno _ (h.nd D hD) (h.mks.lt hD), fun k hk => ⟨hu.fit k hk, ?_⟩⟩, hu⟩
  rcases hk with hk | hk
  · exact (h.fit k hk).2
  · have := (hown.lt k hk).1; omega
/-- What a state's cells in the row are. -/
theorem AllM.row {x : HT} {o : List (List Int)} {n0 S : Nat} {v : Value} {W : World} (h : AllM x o n0 S v W) : ∃ a c, v = .slice a o.length c ∧ Reads W a (o.length * 4) (hsts o) := by
  obtain ⟨a, c, e, -, hr, -⟩ := Reads.of_row (f := hsts o) h.own (fun j hj => hcells_get o j hj)
  exact ⟨a, c, e, hr⟩
theorem al_pre {x : HT} {F : List Int} {s0 : List Int} {o : List (List Int)} {i : Nat} {a : List Int} (hx : x.ok) (h0 : StH s0) (hq : AlQ (nxH x) F s0 i o) (hi : a ∈ o) {pre : List Int} (hp : ∀ f ∈ pre, f ∈ F) :
    (∃ m, pre.foldl (alC (nxH x) a) o = o ++ m) ∧ (pre.foldl (alC (nxH x) a) o).Nodup ∧ ∀ t ∈ pre.foldl (alC (nxH x) a) o, StH t := by
  obtain ⟨ws, hw, ha⟩ := hq.way a hi
  obtain ⟨h1, h2, h3, -⟩ := al_fold hw ha pre o hp hq.nd hq.way
  exact ⟨h1, h2, fun t ht => by
    obtain ⟨es, -, he⟩ := h3 t ht
    exact goW_st hx es s0 t h0 he⟩
theorem hg_app {o m : List (List Int)} {i : Nat} (h : i < o.length) : hg (o ++ m) i = hg o i := by
  unfold hg; rw [List.getD_eq_getElem?_getD, List.getD_eq_getElem?_getD, List.getElem?_append_left h]

set_option maxHeartbeats 6400000 in
set_option maxRecDepth 100000 in
theorem hall_any (x : HT) (w : World) (hx : x.ok) :
    Calls Try.prog 29 #[.agg x.cells] w fun e w' => ∃ a c l, e = .returned (.slice a l.length c) ∧ Reads w' a (l.length * 4) (hsts l) ∧ SrtH l ∧ (∀ t ∈ l, StH t) ∧ (∀ t, t ∈ l ↔ ∃ es, (∀ f ∈ es, f ∈ rngL (x.lo, x.hi)) ∧ goW (nxH x) [0, 0, 0, 0] es = some t) ∧ Below w.heap.size w w' := by
  have hmm := @run_makeMap Try.prog
  obtain ⟨W3, hput, hmp, hgr⟩ := (MapV.new (w.alloc (.cells x.cells 68))).put undSe StH.zero.key (by unfold maxLen; omega) (.agg #[])
  have hput' : (Instr.mapUpdate seT (.map (some (w.heap.size + 1))) (.agg #[.int .i64 0, .int .i64 0, .int .i64 0, .int .i64 0]) (.agg #[])).run Try.prog ((w.alloc (.cells x.cells 68)).alloc (.map #[] 0)) = .ok () W3 := by
    rw [World.size_alloc] at hput; exact hput
  rw [World.size_alloc] at hmp hgr
  have HMP := zH hmp
  have HGR := zH hgr
  have HF1 := zH (fun f (hf : f ∈ rngL (x.lo, x.hi)) => (show -1000 ≤ f ∧ f ≤ 1000 from by
    have h1 := rngL_mem.1 hf
    have := hx.lo1
    have := hx.hi2
    dsimp only at h1
    omega))
  clear hput hmp hgr
  refine (callsIn_wide (n := 5)).1 ?_
  refine callsIn_of_wp_marks Try.func29 rfl trivial ?_ rfl
  simp only [Try.ntmps29, List.size_toArray, List.length_cons, List.length_nil, Nat.reduceAdd, Nat.reduceSub, Array.replicate_succ, Array.replicate_zero, List.push_toArray, List.append_toArray, List.nil_append, List.cons_append]
  gi_wp2_with fail
  obtain ⟨W5, hW5⟩ : ∃ u, (((W3.alloc (.cells #[.map (some (w.heap.size + 1))] 78)).alloc (.cells #[.int .i64 0, .int .i64 0, .int .i64 0, .int .i64 0] 72)).alloc (.cells #[.slice (some ⟨W3.heap.size + 1, 0, none⟩) 1 1] 69)).alloc (.cells #[.int .i64 0] 3) = u := ⟨_, rfl⟩
  rw [hW5]
  have hs3 : w.heap.size + 1 < W3.heap.size := by have := HGR.out.size; simp only [World.size_alloc] at this; omega
  have HM0 : Hid (AllM x [[0, 0, 0, 0]] w.heap.size W3.heap.size (.slice (some ⟨W3.heap.size + 1, 0, none⟩) 1 1) W5) := by
    subst hW5
    refine zH ⟨?_, ?_, ?_, ?_, ?_, ?_, hs3⟩
    · exact ((((blk_grown ((Blk.new w _ _).alloc _) HGR.out (fun e => by injection e with e; omega)).alloc _).alloc _).alloc _).alloc _
    · refine MapV.ext (MapV.to (MapV.to (MapV.to (MapV.to HMP.out (bAlloc (bSelf _) _)) (bAlloc (bSelf _) _)) (bAlloc (bSelf _) _)) (bAlloc (bSelf _) _)) (fun s _ => ?_)
      unfold setF
      simp
    · exact (((Blk.new _ _ _).alloc _).alloc _).alloc _
    · exact (Blk.newAt _ _ _ (by simp)).alloc _
    · have h1 := World.ownsRow_lit (base := W3.heap.size + 1) (e := stH) (size := 4) (W3.alloc (.cells #[.map (some (w.heap.size + 1))] 78)) #[.int .i64 0, .int .i64 0, .int .i64 0, .int .i64 0] 1 (by simp) (by decide) rfl
      rw [World.size_alloc] at h1
      exact owns_to (owns_to h1 (bAlloc (bSelf _) _)) (bAlloc (bSelf _) _)
    · intro e; injection e with e; dsimp only at e; omega
  have K50 : Hid (Blk W5 (W3.heap.size + 1 + 1 + 1) #[.int .i64 ((0 : Nat) : Int)]) := by subst hW5; exact zH (Blk.newAt _ _ _ (by simp))
  have HB0 : Hid (Below w.heap.size w W5) := by
    subst hW5
    have h1 : Below w.heap.size w W3 := (bAlloc (bAlloc (bSelf w) _) _).grown HGR.out (by simp only [World.size_alloc]; omega) (fun k e => by injection e with e; omega)
    exact zH (bAlloc (bAlloc (bAlloc (bAlloc h1 _) _) _) _)
  clear hW5 hput' hmm HMP HGR
  obtain ⟨S, hS⟩ : ∃ s, W3.heap.size = s := ⟨_, rfl⟩
  rw [hS] at HM0 K50 hs3 ⊢
  clear hS
  refine wpIn_loop (fun a' w' => ∃ (u6 u7 u8 u9 u10 u17 u18 u19 u20 u21 u22 u23 u24 u25 u26 u27 u28 u29 u30 u31 u32 u33 u34 u35 u36 u37 u38 u39 u40 u41 u42 u43 u44 u45 u46 u47 u48 u49 u50 u51 u52 u53 u54 : Value) (i B5 : Nat) (o : List (List Int)) (v : Value) (ds : List Deferred), a' = { tmps := #[Value.agg x.cells, Value.pointer (some ⟨w.heap.size, 0, none⟩), Value.slice none 0 0, Value.pointer (some ⟨S, 0, none⟩), Value.pointer (some ⟨S + 1 + 1, 0, none⟩), Value.pointer (some ⟨B5, 0, none⟩), u6, u7, u8, u9, u10, Value.map (some (w.heap.size + 1)), Value.agg #[.int .i64 0, .int .i64 0, .int .i64 0, .int .i64 0], Value.agg #[], Value.map (some (w.heap.size + 1)), Value.agg #[.int .i64 0, .int .i64 0, .int .i64 0, .int .i64 0], Value.slice (some ⟨S + 1, 0, none⟩) 1 1, u17, u18, u19, u20, u21, u22, u23, u24, u25, u26, u27, u28, u29, u30, u31, u32, u33, u34, u35, u36, u37, u38, u39, u40, u41, u42, u43, u44, u45, u46, u47, u48, u49, u50, u51, u52, u53, u54, undef, undef, undef], defers := ds } ∧ i ≤ o.length ∧ Hid (AlQ (nxH x) (rngL (x.lo, x.hi)) [0, 0, 0, 0] i o) ∧ Hid (∀ a ∈ o, StH a) ∧ Hid (AllM x o w.heap.size S v w') ∧ Hid (Blk w' B5 #[.int .i64 (i : Int)]) ∧ Hid (S + 1 + 1 < B5) ∧ Hid (Marks ds w') ∧ Hid (∀ D, (∃ d ∈ ds, d.target = .collected D) → S + 1 + 1 < D ∧ v.ownBlock ≠ some D) ∧ Hid (v.ownBlock ≠ some B5) ∧ Hid (Below w.heap.size w w')) (fun a' w' => 2402 - boxN (a'.tmps.getD 5 undef) w') ?_ ?_
  · exact ⟨_, _, _, _, _, _, _, _, _, _, _, _, _, _, _, _, _, _, _, _, _, _, _, _, _, _, _, _, _, _, _, _, _, _, _, _, _, _, _, _, _, _, _, 0, S + 1 + 1 + 1, [[0, 0, 0, 0]], _, [], rfl, Nat.zero_le _, zH (AlQ.start _), zH (fun a ha => (List.mem_singleton.1 ha).symm ▸ StH.zero), HM0, K50, zH (by omega), zH (Marks.nil _), zH (fun D hD => by obtain ⟨d, hd, -⟩ := hD; cases hd), zH (fun e => by injection e with e; dsimp only at e; omega), HB0⟩
  · clear HM0 K50 HB0
    rintro - wr ⟨u6, u7, u8, u9, u10, u17, u18, u19, u20, u21, u22, u23, u24, u25, u26, u27, u28, u29, u30, u31, u32, u33, u34, u35, u36, u37, u38, u39, u40, u41, u42, u43, u44, u45, u46, u47, u48, u49, u50, u51, u52, u53, u54, i, B5, o, v, ds, rfl, hi, HQ, HSH, HM, K5, HB5, HMK, HDS, HV5, HB⟩
    have hlen := few_sth HQ.out.nd HSH.out
    obtain ⟨av, cv, e, hrow⟩ := HM.out.row
    subst e
    have HROW := zH hrow
    obtain ⟨-, k5, -⟩ := K5.out
    obtain ⟨-, k4, -⟩ := HM.out.k4
    obtain ⟨-, k1, -⟩ := HM.out.k1
    clear hrow
    by_cases hlt : i < o.length
    · have ham : hg o i ∈ o := by rw [hg_lt hlt]; exact List.getElem_mem hlt
      have hpre := zH (fun (pre : List Int) (hp : ∀ f ∈ pre, f ∈ rngL (x.lo, x.hi)) => al_pre hx StH.zero HQ.out ham hp)
      have hsa := HSH.out _ ham
      have hstep := zH (HQ.out.step (a := hg o i) (by rw [List.getElem?_eq_getElem hlt, hg_lt hlt]))
      have hga := zH (fun (m : List (List Int)) => hg_app (m := m) hlt)
      obtain ⟨a, ha⟩ : ∃ a, hg o i = a := ⟨_, rfl⟩
      rw [ha] at hpre hsa hstep hga ham
      have hmr : Hid (∀ k, (k = w.heap.size + 1 ∨ k = S + 1 + 1 ∨ (Value.slice av o.length cv).ownBlock = some k) → k < wr.heap.size ∧ w.heap.size ≤ k) := zH (fun k hk => by
        have hlt := HM.out.lt
        rcases hk with rfl | rfl | hk
        · exact ⟨HM.out.mp.lt, by omega⟩
        · exact ⟨HM.out.k4.1, by omega⟩
        · have := HM.out.own.lt k hk; exact ⟨this.2, by omega⟩)
      have HJ0 : Hid (AllJ x o i w.heap.size S B5 w ds (.slice av o.length cv) (fun k => k = w.heap.size + 1 ∨ k = S + 1 + 1 ∨ (Value.slice av o.length cv).ownBlock = some k) wr) := by
        have hlt := HM.out.lt
        have h5 := HB5.out
        refine zH ⟨HM.out, K5.out, HB.out, HMK.out, fun k hk => .inr (.inr hk), .inl rfl, .inr (.inl rfl), ?_, ?_, ?_, ?_, hmr.out⟩
        · rintro (h | h | h)
          · omega
          · omega
          · have := (HM.out.own.lt _ h).1; omega
        · rintro (h | h | h)
          · omega
          · omega
          · have := (HM.out.own.lt _ h).1; omega
        · rintro (h | h | h)
          · omega
          · omega
          · exact HV5.out h
        · rintro D hD (h | h | h)
          · have := (HDS.out D hD).1; omega
          · have := (HDS.out D hD).1; omega
          · exact (HDS.out D hD).2 h
      have hmd := zH (fun D hD => HMK.out.lt (D := D) hD)
      have hb5 : B5 < wr.heap.size := K5.out.1
      have hSr : S < wr.heap.size := HM.out.k3.1
      gi_wp2_with fail
      clear k1 k4 k5
      refine wpIn_rangeFunc_B (xs := rngL (x.lo, x.hi)) rfl (by intro args w; go_simp) (forces_in 4 x wr hx) (bSelf _) (fun _ => rfl) (fun _ h => h.elim)
        (fun pre M1 W => ∃ v, AllJ x (pre.foldl (alC (nxH x) a) o) i w.heap.size S B5 w ds v M1 W) (fun _ _ _ => False) (fun k => k = w.heap.size + 1 ∨ k = S + 1 + 1 ∨ (Value.slice av o.length cv).ownBlock = some k) (fun k hk => ⟨(hmr.out k hk).1, fun h => h.elim⟩)
        (fun pre M1 W1 W2 h hag => ⟨h.choose, h.choose_spec.agree hag hSr hb5 hmd.out⟩) (fun _ _ _ _ _ h _ _ => h)
        (fun b pre f M1 a₁ W => (∃ v, AllJ x (pre.foldl (alC (nxH x) a) o) i w.heap.size S B5 w ds v M1 W) ∧ a₁ = { tmps := (b.tmps.setIfInBounds 25 (.int .i64 f)).setIfInBounds 6 (.int .i64 f), defers := [] })
        ?hI1 ⟨_, HJ0.out⟩ ?hassign ?hbody ?hdone (fun _ _ _ _ _ _ _ _ h _ => h.elim)
      case hI1 =>
        rintro pre f M1 a₁ Wa Wb ⟨⟨v, h⟩, rfl⟩ hag
        exact ⟨⟨v, h.agree hag hSr hb5 hmd.out⟩, rfl⟩
      case hassign =>
        intro l pre f rest M1 Wa hxs hI hszA
        gi_wp2_with fail
        exact ⟨M1, ⟨hI, rfl⟩, Upd.refl (fun k hk => (hI.choose_spec.fit k hk).1)⟩
      case hbody =>
        rintro l pre f rest M1 a₁ Wa hxs ⟨⟨v, hJ⟩, rfl⟩ hszA
        simp only [zzT, zzO, zzS]
        have hfm : f ∈ rngL (x.lo, x.hi) := by rw [hxs]; simp
        obtain ⟨hf1, hf2⟩ := HF1.out f hfm
        obtain ⟨⟨m, hom⟩, hnd, hst⟩ := hpre.out pre (fun g hg => by rw [hxs]; exact List.mem_append_left _ hg)
        have hfew := few_sth hnd hst
        have hgi : hg (pre.foldl (alC (nxH x) a) o) i = a := by rw [hom]; exact hga.out m
        have hli : i < (pre.foldl (alC (nxH x) a) o).length := by rw [hom, List.length_append]; omega
        have HSN := zH (show (pre ++ [f]).foldl (alC (nxH x) a) o = alC (nxH x) a (pre.foldl (alC (nxH x) a) o) f from by rw [List.foldl_append]; rfl)
        obtain ⟨o1, ho1⟩ : ∃ q, pre.foldl (alC (nxH x) a) o = q := ⟨_, rfl⟩
        rw [ho1] at hJ hnd hst hfew hgi hli HSN
        have HOM := zH hom
        have HJW : Hid (w.heap.size + 1 < Wa.heap.size) := zH (by have := hJ.mem.k3.1; have := hJ.mem.lt; omega)
        obtain ⟨vb, vcap, e, hrow1⟩ := hJ.mem.row
        subst e
        have HJ := zH hJ
        obtain ⟨g, go, rfl, hgl, hgc⟩ := hrow1.at (k := i * 4) (by omega)
        have C0 : Hid (Wa.cell? ⟨g, go + i * 4, none⟩ = some (.int .i64 (gi a 0))) := zH (by have := hgc (i * 4 + 0) (by omega); rw [hsts_at _ _ _ (by omega), hgi] at this; exact this)
        have C1 : Hid (Wa.cell? ⟨g, go + i * 4 + 1, none⟩ = some (.int .i64 (gi a 1))) := zH (by have := hgc (i * 4 + 1) (by omega); rw [hsts_at _ _ _ (by omega), hgi] at this; exact this)
        have C2 : Hid (Wa.cell? ⟨g, go + i * 4 + 2, none⟩ = some (.int .i64 (gi a 2))) := zH (by have := hgc (i * 4 + 2) (by omega); rw [hsts_at _ _ _ (by omega), hgi] at this; exact this)
        have C3 : Hid (Wa.cell? ⟨g, go + i * 4 + 3, none⟩ = some (.int .i64 (gi a 3))) := zH (by have := hgc (i * 4 + 3) (by omega); rw [hsts_at _ _ _ (by omega), hgi] at this; exact this)
        have HNX := zH (fun W => nextH_any x a f W hx hsa hf1 hf2)
        have HKY := zH (nextH_key hx hsa hf1 hf2)
        have HAN := zH (fun (h : inB x (nextV x a f) = false) => alH_no (o := o1) h)
        have HAI := zH (fun (h : inB x (nextV x a f) = true) hm => alH_in (o := o1) h hm)
        have HAW := zH (fun (h : inB x (nextV x a f) = true) hm => alH_new (o := o1) h hm)
        obtain ⟨is, his⟩ : ∃ b, inB x (nextV x a f) = b := ⟨_, rfl⟩
        obtain ⟨t, ht⟩ : ∃ t, nextL x a (nextV x a f) = t := ⟨_, rfl⟩
        rw [his, ht] at HNX
        rw [ht] at HKY
        rw [his] at HAN HAI HAW
        rw [ht] at HAI HAW
        clear hom hgc hrow1 his ht hJ hxs hfm hgi
        gi_wp2_with fail
        refine wpIn_region_tree (by kernel_rfl) (by kernel_rfl) (by rintro ⟨_, _, h⟩; exact h) (fun wd hwd => ?_)
        have T := zH hwd
        clear hwd
        refine WTq 0 ?_; apply Exists.intro; refine ⟨fun w1 hb1 => ?_, ?_⟩; (focus (((obtain ⟨-, k1, -⟩ := (HJ.out.to (T.out.trans hb1)).mem.k1); have hb1 := zH hb1; go_simp); (try (go_bits; try go_simp)); (try (rw [if_pos (by omega)]; try go_simp)); (first | done | (with_reducible rfl) | exact rfl)))
        simp only [Act.put, zzT, zzO, zzS]
        refine WTq 1 ?_; apply Exists.intro; refine ⟨fun w1 hb1 => ?_, ?_⟩; (focus (((obtain ⟨-, k4, -⟩ := (HJ.out.to (T.out.trans hb1)).mem.k4); have hb1 := zH hb1; go_simp); (try (go_bits; try go_simp)); (try (rw [if_pos (by omega)]; try go_simp)); (first | done | (with_reducible rfl) | exact rfl)))
        simp only [Act.put, zzT, zzO, zzS]
        refine WTq 2 ?_; apply Exists.intro; refine ⟨fun w1 hb1 => ?_, ?_⟩; (focus (((obtain ⟨-, k5, -⟩ := (HJ.out.to (T.out.trans hb1)).k5); have hb1 := zH hb1; go_simp); (try (go_bits; try go_simp)); (try (rw [if_pos (by omega)]; try go_simp)); (first | done | (with_reducible rfl) | exact rfl)))
        simp only [Act.put, zzT, zzO, zzS]
        refine WTq 3 ?_; apply Exists.intro; refine ⟨fun w1 hb1 => ?_, ?_⟩; (focus ((have hb1 := zH hb1; go_simp); (try (go_bits; try go_simp)); (try (rw [if_pos (by omega)]; try go_simp)); (first | done | (with_reducible rfl) | exact rfl)))
        simp only [Act.put, zzT, zzO, zzS]
        refine WTq 4 ?_; apply Exists.intro; refine ⟨fun w1 hb1 => ?_, ?_⟩; (focus (((have c0 := ((T.out.trans hb1).cell (p := ⟨g, go + i * 4, none⟩) hgl).trans C0.out; have c1 := ((T.out.trans hb1).cell (p := ⟨g, go + i * 4 + 1, none⟩) hgl).trans C1.out; have c2 := ((T.out.trans hb1).cell (p := ⟨g, go + i * 4 + 2, none⟩) hgl).trans C2.out; have c3 := ((T.out.trans hb1).cell (p := ⟨g, go + i * 4 + 3, none⟩) hgl).trans C3.out); have hb1 := zH hb1; go_simp); (try (go_bits; try go_simp)); (try (rw [if_pos (by omega)]; try go_simp)); (first | done | (with_reducible rfl) | exact rfl)))
        simp only [Act.put, zzT, zzO, zzS]
        refine WTq 5 ?_; apply Exists.intro; refine ⟨fun w1 hb1 => ?_, ?_⟩; (focus ((have hb1 := zH hb1; go_simp); (try (go_bits; try go_simp)); (try (rw [if_pos (by omega)]; try go_simp)); (first | done | (with_reducible rfl) | exact rfl)))
        simp only [Act.put, zzT, zzO, zzS]
        refine WT_two 6 10 rfl rfl (by kernel_rfl) ?_ ?_
        · unfold stepT
          go_wp2_with fail
          refine (HNX.out _).mono ?_
          rintro e u101 ⟨rfl, hb⟩
          have hbd := zH (hb.mono T.out.size)
          replace T := zH (bThen T.out hb)
          clear hb
          go_wp2_with fail
          refine ⟨hbd.out, ?_⟩
          clear hbd
          refine WTq 7 ?_; apply Exists.intro; refine ⟨fun w1 hb1 => ?_, ?_⟩; (focus ((have hb1 := zH hb1; go_simp); (try (go_bits; try go_simp)); (try (rw [if_pos (by omega)]; try go_simp)); (first | done | (with_reducible rfl) | exact rfl)))
          simp only [Act.put, zzT, zzO, zzS]
          refine WTq 8 ?_; apply Exists.intro; refine ⟨fun w1 hb1 => ?_, ?_⟩; (focus ((have hb1 := zH hb1; go_simp); (try (go_bits; try go_simp)); (try (rw [if_pos (by omega)]; try go_simp)); (first | done | (with_reducible rfl) | exact rfl)))
          simp only [Act.put, zzT, zzO, zzS]
          refine WTq 9 ?_; apply Exists.intro; refine ⟨fun w1 hb1 => ?_, ?_⟩; (focus ((have hb1 := zH hb1; go_simp); (try (go_bits; try go_simp)); (try (rw [if_pos (by omega)]; try go_simp)); (first | done | (with_reducible rfl) | exact rfl)))
          simp only [Act.put, zzT, zzO, zzS]
          refine WT_one 10 rfl (by kernel_rfl) ?_
          unfold stepT
          go_wp2_with fail
          obtain ⟨u102, hwA⟩ : ∃ wA, u101.alloc (.cells #[.int .i64 0, .int .i64 0, .int .i64 0, .int .i64 0] 72) = wA := ⟨_, rfl⟩
          rw [hwA]
          have hb : Below u101.heap.size u101 u102 := by subst hwA; exact bAlloc (bSelf _) _
          have KBN : Hid (Blk u102 u101.heap.size #[.int .i64 0, .int .i64 0, .int .i64 0, .int .i64 0]) := by subst hwA; exact Blk.new _ _ _
          clear hwA
          have BNN : Hid (Wa.heap.size ≤ u101.heap.size) := zH T.out.size
          obtain ⟨BN, hBN⟩ : ∃ N, u101.heap.size = N := ⟨_, rfl⟩
          have hbd := zH (hb.mono T.out.size)
          replace T := zH (bThen T.out hb)
          clear hb
          rw [hBN] at KBN BNN ⊢
          clear hBN
          refine ⟨hbd.out, ?_⟩
          clear hbd
          refine WT_one 11 rfl (by kernel_rfl) ?_
          unfold stepT
          obtain ⟨-, kx, fx⟩ := KBN.out
          go_wp2_with fail
          clear kx fx
          obtain ⟨u103, hu⟩ : ∃ u, st4 u102 BN (.int .i64 (gi t 0)) (.int .i64 (gi t 1)) (.int .i64 (gi t 2)) (.int .i64 (gi t 3)) = u := ⟨_, rfl⟩
          have hb := below_st4 u102 BNN.out (.int .i64 (gi t 0)) (.int .i64 (gi t 1)) (.int .i64 (gi t 2)) (.int .i64 (gi t 3))
          have h2 := KBN.out.st4 (.int .i64 (gi t 0)) (.int .i64 (gi t 1)) (.int .i64 (gi t 2)) (.int .i64 (gi t 3))
          rw [hu] at hb h2
          unfold st4 at hu
          rw [hu]
          replace KBN := zH h2
          clear h2 hu
          replace T := zH (T.out.trans hb)
          refine ⟨hb, ?_⟩
          clear hb
          refine WTq 12 ?_; apply Exists.intro; refine ⟨fun w1 hb1 => ?_, ?_⟩; (focus ((have hb1 := zH hb1; go_simp); (try (go_bits; try go_simp)); (try (rw [if_pos (by omega)]; try go_simp)); (first | done | (with_reducible rfl) | exact rfl)))
          simp only [Act.put, zzT, zzO, zzS]
          refine WT_done (by kernel_rfl) ?_
          have HU := zH (Upd.of_below (fun k hk => (HJ.out.fit k hk).1) T.out)
          replace HJ := zH (HJ.out.to T.out)
          clear T C0 C1 C2 C3
          obtain ⟨wq, hwq⟩ : ∃ z, z = u103 := ⟨_, rfl⟩
          subst hwq
          obtain ⟨-, k3, -⟩ := HJ.out.mem.k3
          obtain ⟨-, kn, -⟩ := KBN.out
          have hask := HJ.out.mem.mp.askOk undSe (zeroU _) HKY.out
          rw [setF_val, setF_is] at hask
          have hask' : (Instr.lookup seT (.map (some (w.heap.size + 1))) (.agg #[.int .i64 (gi t 0), .int .i64 (gi t 1), .int .i64 (gi t 2), .int .i64 (gi t 3)]) true).run Try.prog wq = .ok (.tuple #[.agg #[], .bool (decide (t ∈ o1))]) wq := hask
          clear hask
          cases is
          case false =>
            clear hask' k3 kn HAI HAW
            have hask' := (show (Instr.lookup seT (.map (some (w.heap.size + 1))) (.agg #[.int .i64 (gi t 0), .int .i64 (gi t 1), .int .i64 (gi t 2), .int .i64 (gi t 3)]) true).run Try.prog wq = .ok (.tuple #[.agg #[], .bool (decide (t ∈ o1))]) wq from by
              have h1 := HJ.out.mem.mp.askOk undSe (zeroU _) HKY.out
              rw [setF_val, setF_is] at h1
              exact h1)
            obtain ⟨-, k3, -⟩ := HJ.out.mem.k3
            obtain ⟨-, kn, -⟩ := KBN.out
            gi_wp2_with fail
            exact ⟨M1, ⟨_, by rw [HSN.out, HAN.out (by first | rfl | trivial)]; exact HJ.out.to (bAlloc (bSelf _) _)⟩, HU.out.trans (Upd.of_below (fun k hk => (HJ.out.fit k hk).1) (bAlloc (bSelf _) _))⟩
          case true =>
            by_cases hin : t ∈ o1
            · rw [decide_eq_true hin] at hask'
              have hal := zH (HAI.out (by first | rfl | trivial) hin)
              clear hin HAI HAW HAN
              gi_wp2_with fail
              exact ⟨M1, ⟨_, by rw [HSN.out, hal.out]; exact HJ.out.to (bAlloc (bSelf _) _)⟩, HU.out.trans (Upd.of_below (fun k hk => (HJ.out.fit k hk).1) (bAlloc (bSelf _) _))⟩
            · rw [decide_eq_false hin] at hask'
              have hal := zH (HAW.out (by first | rfl | trivial) hin)
              clear hin HAI HAW HAN
              obtain ⟨wz, hwz⟩ : ∃ u, wq.alloc (.cells #[] 83) = u := ⟨_, rfl⟩
              have hbz : Below wq.heap.size wq wz := by subst hwz; exact bAlloc (bSelf _) _
              have HJz := zH (HJ.out.to hbz)
              have HUz := zH (HU.out.trans (Upd.of_below (fun k hk => (HJ.out.fit k hk).1) hbz))
              have KNz := zH (KBN.out.to hbz)
              obtain ⟨W1, hput, hmp1, hgr1⟩ := HJz.out.mem.mp.put undSe HKY.out (by unfold maxLen; omega) (.agg #[])
              have hput' : (Instr.mapUpdate seT (.map (some (w.heap.size + 1))) (.agg #[.int .i64 (gi t 0), .int .i64 (gi t 1), .int .i64 (gi t 2), .int .i64 (gi t 3)]) (.agg #[])).run Try.prog wz = .ok () W1 := hput
              have HMP1 := zH hmp1
              have HGR1 := zH hgr1
              have hS := HJz.out.mem.lt
              have hgb := (HJz.out.mem.own.lt g rfl).1
              have hN1 : BN ≠ w.heap.size + 1 := by have := BNN.out; have := HJW.out; omega
              obtain ⟨-, k3z, -⟩ := HJz.out.mem.k3
              obtain ⟨-, knz, -⟩ := KNz.out
              have K4W := zH (blk_grown HJz.out.mem.k4 hgr1 (fun e => by injection e with e; omega))
              have KNW := zH (blk_grown KNz.out hgr1 (fun e => by injection e with e; exact hN1 e.symm))
              obtain ⟨-, k4w, -⟩ := K4W.out
              obtain ⟨-, knw, -⟩ := KNW.out
              have HOW := zH (owns_to (HJz.out.mem.own.kept hgr1 (.inr (fun e => by injection e with e; have e2 : g = w.heap.size + 1 := e; omega))) (bAlloc (bSelf W1) (.cells #[.int .i64 (gi t 0), .int .i64 (gi t 1), .int .i64 (gi t 2), .int .i64 (gi t 3)] 72)))
              have HNW := zH (Blk.new W1 #[.int .i64 (gi t 0), .int .i64 (gi t 1), .int .i64 (gi t 2), .int .i64 (gi t 3)] 72).news
              have HADD := zH (fun (v' : Value) (W3 : World) (ob : Obj) => HJz.out.add (W1 := W1) (v' := v') (W3 := W3) (ob := ob) HMP1.out HGR1.out)
              have HSZ : Hid (S + 1 ≤ W1.heap.size) := zH (by have := hgr1.size; have := HJz.out.mem.k4.1; omega)
              have HNE := zH HJz.out.mem.ne
              obtain ⟨no, hno⟩ : ∃ q, o1.length = q := ⟨_, rfl⟩
              rw [hno] at HADD HOW hfew k4w K4W HNE ⊢
              have HNO := zH hno
              clear hput hmp1 hgr1 hgb hno hN1
              gi_wp2_with (gi_at_builtin; go_loud (refine wpListIn_app (S + 1) rtHs rfl (.tmp 50) (.tmp 52) rfl _ no _ rfl HOW.out ⟨W1.heap.size, 0, none⟩ 1 1 [.int .i64 (gi t 0), .int .i64 (gi t 1), .int .i64 (gi t 2), .int .i64 (gi t 3)] rfl rfl (by simpa using HNW.out) (onesH t) (by unfold maxLen; omega) (by omega) (by have := HSZ.out; simp only [World.size_alloc]; omega) ?_; intro v' w7 hown' hgrow _ hwhere; obtain ⟨va', vc', rfl⟩ := ownsRow_slH hown'; have HO7 := zH hown'; have HG7 := zH hgrow; have HW7 := zH hwhere; have hk4 : Blk w7 (S + 1 + 1) #[.slice (some ⟨g, go, none⟩) no vcap] := blk_grown (K4W.out.alloc (.cells #[.int .i64 (gi t 0), .int .i64 (gi t 1), .int .i64 (gi t 2), .int .i64 (gi t 3)] 72)) HG7.out HNE.out; have k4x := hk4.2.1; have f4x := hk4.2.2; clear hown' hgrow hwhere))
              obtain ⟨M2, hJ2, hU2⟩ := HADD.out _ _ _ HO7.out HG7.out HW7.out
              exact ⟨M2, ⟨_, by rw [HSN.out, hal.out]; exact hJ2⟩, HUz.out.trans hU2⟩
        · unfold stepT
          go_wp2_with fail
          obtain ⟨u101, hwA⟩ : ∃ wA, wd.alloc (.cells #[.int .i64 0, .int .i64 0, .int .i64 0, .int .i64 0] 72) = wA := ⟨_, rfl⟩
          rw [hwA]
          have hb : Below wd.heap.size wd u101 := by subst hwA; exact bAlloc (bSelf _) _
          have KBN : Hid (Blk u101 wd.heap.size #[.int .i64 0, .int .i64 0, .int .i64 0, .int .i64 0]) := by subst hwA; exact Blk.new _ _ _
          clear hwA
          have BNN : Hid (Wa.heap.size ≤ wd.heap.size) := zH T.out.size
          obtain ⟨BN, hBN⟩ : ∃ N, wd.heap.size = N := ⟨_, rfl⟩
          have hbd := zH (hb.mono T.out.size)
          replace T := zH (bThen T.out hb)
          clear hb
          rw [hBN] at KBN BNN ⊢
          clear hBN
          refine ⟨hbd.out, ?_⟩
          clear hbd
          refine WT_one 6 rfl (by kernel_rfl) ?_
          unfold stepT
          go_wp2_with fail
          refine (HNX.out _).mono ?_
          rintro e u102 ⟨rfl, hb⟩
          replace KBN := zH (KBN.out.to hb)
          have hbd := zH (hb.mono T.out.size)
          replace T := zH (bThen T.out hb)
          clear hb
          go_wp2_with fail
          refine ⟨hbd.out, ?_⟩
          clear hbd
          refine WTq 7 ?_; apply Exists.intro; refine ⟨fun w1 hb1 => ?_, ?_⟩; (focus ((have hb1 := zH hb1; go_simp); (try (go_bits; try go_simp)); (try (rw [if_pos (by omega)]; try go_simp)); (first | done | (with_reducible rfl) | exact rfl)))
          simp only [Act.put, zzT, zzO, zzS]
          refine WTq 8 ?_; apply Exists.intro; refine ⟨fun w1 hb1 => ?_, ?_⟩; (focus ((have hb1 := zH hb1; go_simp); (try (go_bits; try go_simp)); (try (rw [if_pos (by omega)]; try go_simp)); (first | done | (with_reducible rfl) | exact rfl)))
          simp only [Act.put, zzT, zzO, zzS]
          refine WTq 9 ?_; apply Exists.intro; refine ⟨fun w1 hb1 => ?_, ?_⟩; (focus ((have hb1 := zH hb1; go_simp); (try (go_bits; try go_simp)); (try (rw [if_pos (by omega)]; try go_simp)); (first | done | (with_reducible rfl) | exact rfl)))
          simp only [Act.put, zzT, zzO, zzS]
          refine WT_one 11 rfl (by kernel_rfl) ?_
          unfold stepT
          obtain ⟨-, kx, fx⟩ := KBN.out
          go_wp2_with fail
          clear kx fx
          obtain ⟨u103, hu⟩ : ∃ u, st4 u102 BN (.int .i64 (gi t 0)) (.int .i64 (gi t 1)) (.int .i64 (gi t 2)) (.int .i64 (gi t 3)) = u := ⟨_, rfl⟩
          have hb := below_st4 u102 BNN.out (.int .i64 (gi t 0)) (.int .i64 (gi t 1)) (.int .i64 (gi t 2)) (.int .i64 (gi t 3))
          have h2 := KBN.out.st4 (.int .i64 (gi t 0)) (.int .i64 (gi t 1)) (.int .i64 (gi t 2)) (.int .i64 (gi t 3))
          rw [hu] at hb h2
          unfold st4 at hu
          rw [hu]
          replace KBN := zH h2
          clear h2 hu
          replace T := zH (T.out.trans hb)
          refine ⟨hb, ?_⟩
          clear hb
          refine WTq 12 ?_; apply Exists.intro; refine ⟨fun w1 hb1 => ?_, ?_⟩; (focus ((have hb1 := zH hb1; go_simp); (try (go_bits; try go_simp)); (try (rw [if_pos (by omega)]; try go_simp)); (first | done | (with_reducible rfl) | exact rfl)))
          simp only [Act.put, zzT, zzO, zzS]
          refine WT_done (by kernel_rfl) ?_
          have HU := zH (Upd.of_below (fun k hk => (HJ.out.fit k hk).1) T.out)
          replace HJ := zH (HJ.out.to T.out)
          clear T C0 C1 C2 C3
          obtain ⟨wq, hwq⟩ : ∃ z, z = u103 := ⟨_, rfl⟩
          subst hwq
          obtain ⟨-, k3, -⟩ := HJ.out.mem.k3
          obtain ⟨-, kn, -⟩ := KBN.out
          have hask := HJ.out.mem.mp.askOk undSe (zeroU _) HKY.out
          rw [setF_val, setF_is] at hask
          have hask' : (Instr.lookup seT (.map (some (w.heap.size + 1))) (.agg #[.int .i64 (gi t 0), .int .i64 (gi t 1), .int .i64 (gi t 2), .int .i64 (gi t 3)]) true).run Try.prog wq = .ok (.tuple #[.agg #[], .bool (decide (t ∈ o1))]) wq := hask
          clear hask
          cases is
          case false =>
            clear hask' k3 kn HAI HAW
            have hask' := (show (Instr.lookup seT (.map (some (w.heap.size + 1))) (.agg #[.int .i64 (gi t 0), .int .i64 (gi t 1), .int .i64 (gi t 2), .int .i64 (gi t 3)]) true).run Try.prog wq = .ok (.tuple #[.agg #[], .bool (decide (t ∈ o1))]) wq from by
              have h1 := HJ.out.mem.mp.askOk undSe (zeroU _) HKY.out
              rw [setF_val, setF_is] at h1
              exact h1)
            obtain ⟨-, k3, -⟩ := HJ.out.mem.k3
            obtain ⟨-, kn, -⟩ := KBN.out
            gi_wp2_with fail
            exact ⟨M1, ⟨_, by rw [HSN.out, HAN.out (by first | rfl | trivial)]; exact HJ.out.to (bAlloc (bSelf _) _)⟩, HU.out.trans (Upd.of_below (fun k hk => (HJ.out.fit k hk).1) (bAlloc (bSelf _) _))⟩
          case true =>
            by_cases hin : t ∈ o1
            · rw [decide_eq_true hin] at hask'
              have hal := zH (HAI.out (by first | rfl | trivial) hin)
              clear hin HAI HAW HAN
              gi_wp2_with fail
              exact ⟨M1, ⟨_, by rw [HSN.out, hal.out]; exact HJ.out.to (bAlloc (bSelf _) _)⟩, HU.out.trans (Upd.of_below (fun k hk => (HJ.out.fit k hk).1) (bAlloc (bSelf _) _))⟩
            · rw [decide_eq_false hin] at hask'
              have hal := zH (HAW.out (by first | rfl | trivial) hin)
              clear hin HAI HAW HAN
              obtain ⟨wz, hwz⟩ : ∃ u, wq.alloc (.cells #[] 83) = u := ⟨_, rfl⟩
              have hbz : Below wq.heap.size wq wz := by subst hwz; exact bAlloc (bSelf _) _
              have HJz := zH (HJ.out.to hbz)
              have HUz := zH (HU.out.trans (Upd.of_below (fun k hk => (HJ.out.fit k hk).1) hbz))
              have KNz := zH (KBN.out.to hbz)
              obtain ⟨W1, hput, hmp1, hgr1⟩ := HJz.out.mem.mp.put undSe HKY.out (by unfold maxLen; omega) (.agg #[])
              have hput' : (Instr.mapUpdate seT (.map (some (w.heap.size + 1))) (.agg #[.int .i64 (gi t 0), .int .i64 (gi t 1), .int .i64 (gi t 2), .int .i64 (gi t 3)]) (.agg #[])).run Try.prog wz = .ok () W1 := hput
              have HMP1 := zH hmp1
              have HGR1 := zH hgr1
              have hS := HJz.out.mem.lt
              have hgb := (HJz.out.mem.own.lt g rfl).1
              have hN1 : BN ≠ w.heap.size + 1 := by have := BNN.out; have := HJW.out; omega
              obtain ⟨-, k3z, -⟩ := HJz.out.mem.k3
              obtain ⟨-, knz, -⟩ := KNz.out
              have K4W := zH (blk_grown HJz.out.mem.k4 hgr1 (fun e => by injection e with e; omega))
              have KNW := zH (blk_grown KNz.out hgr1 (fun e => by injection e with e; exact hN1 e.symm))
              obtain ⟨-, k4w, -⟩ := K4W.out
              obtain ⟨-, knw, -⟩ := KNW.out
              have HOW := zH (owns_to (HJz.out.mem.own.kept hgr1 (.inr (fun e => by injection e with e; have e2 : g = w.heap.size + 1 := e; omega))) (bAlloc (bSelf W1) (.cells #[.int .i64 (gi t 0), .int .i64 (gi t 1), .int .i64 (gi t 2), .int .i64 (gi t 3)] 72)))
              have HNW := zH (Blk.new W1 #[.int .i64 (gi t 0), .int .i64 (gi t 1), .int .i64 (gi t 2), .int .i64 (gi t 3)] 72).news
              have HADD := zH (fun (v' : Value) (W3 : World) (ob : Obj) => HJz.out.add (W1 := W1) (v' := v') (W3 := W3) (ob := ob) HMP1.out HGR1.out)
              have HSZ : Hid (S + 1 ≤ W1.heap.size) := zH (by have := hgr1.size; have := HJz.out.mem.k4.1; omega)
              have HNE := zH HJz.out.mem.ne
              obtain ⟨no, hno⟩ : ∃ q, o1.length = q := ⟨_, rfl⟩
              rw [hno] at HADD HOW hfew k4w K4W HNE ⊢
              have HNO := zH hno
              clear hput hmp1 hgr1 hgb hno hN1
              gi_wp2_with (gi_at_builtin; go_loud (refine wpListIn_app (S + 1) rtHs rfl (.tmp 50) (.tmp 52) rfl _ no _ rfl HOW.out ⟨W1.heap.size, 0, none⟩ 1 1 [.int .i64 (gi t 0), .int .i64 (gi t 1), .int .i64 (gi t 2), .int .i64 (gi t 3)] rfl rfl (by simpa using HNW.out) (onesH t) (by unfold maxLen; omega) (by omega) (by have := HSZ.out; simp only [World.size_alloc]; omega) ?_; intro v' w7 hown' hgrow _ hwhere; obtain ⟨va', vc', rfl⟩ := ownsRow_slH hown'; have HO7 := zH hown'; have HG7 := zH hgrow; have HW7 := zH hwhere; have hk4 : Blk w7 (S + 1 + 1) #[.slice (some ⟨g, go, none⟩) no vcap] := blk_grown (K4W.out.alloc (.cells #[.int .i64 (gi t 0), .int .i64 (gi t 1), .int .i64 (gi t 2), .int .i64 (gi t 3)] 72)) HG7.out HNE.out; have k4x := hk4.2.1; have f4x := hk4.2.2; clear hown' hgrow hwhere))
              obtain ⟨M2, hJ2, hU2⟩ := HADD.out _ _ _ HO7.out HG7.out HW7.out
              exact ⟨M2, ⟨_, by rw [HSN.out, hal.out]; exact hJ2⟩, HUz.out.trans hU2⟩
      case hdone =>
        intro D M1 Wd hD hMD hI hdef
        obtain ⟨v, hJ⟩ := hI
        have HJ := zH hJ
        have HD := zH hdef
        have HMD := zH hMD
        have hst := (hpre.out (rngL (x.lo, x.hi)) (fun g hg => hg)).2.2
        have HST := zH hst
        have HQ2 := hstep.out
        have HQ3 : Hid (AlQ (nxH x) (rngL (x.lo, x.hi)) [0, 0, 0, 0] (i + 1) ((rngL (x.lo, x.hi)).foldl (alC (nxH x) a) o)) := zH HQ2
        obtain ⟨o2, ho2⟩ : ∃ q, (rngL (x.lo, x.hi)).foldl (alC (nxH x) a) o = q := ⟨_, rfl⟩
        rw [ho2] at HJ HST HQ3
        have hw4 := HM.out.k4.1
        clear hJ hdef hMD hst HQ2 ho2
        obtain ⟨-, k5, -⟩ := HJ.out.k5
        gi_wp2_with fail
        have hbn : Below Wd.heap.size Wd (Wd.alloc (.cells #[.int .i64 ((i : Int) + 1)] 3)) := bAlloc (bSelf _) _
        have hii : ((i : Int) + 1) = ((i + 1 : Nat) : Int) := by omega
        refine ⟨⟨_, _, _, _, _, _, _, _, _, _, _, _, _, _, _, _, _, _, _, _, _, _, _, _, _, _, _, _, _, _, _, _, _, _, _, _, _, _, _, _, _, _, _, i + 1, Wd.heap.size, o2, v, { target := .collected D, args := #[] } :: ds, rfl, HQ3.out.le, HQ3, HST, zH (HJ.out.mem.to hbn), zH (by rw [← hii]; exact Blk.new _ _ _), zH HJ.out.mem.k4.1, zH (Marks.cons HMK.out (HJ.out.mks.to hbn) hD ((hbn.block D (Array.getElem?_eq_some_iff.1 HD.out).1).trans HD.out)), zH (fun D' hD' => ?_), zH (fun e => by have := (HJ.out.mem.own.lt _ e).2; omega), zH (HJ.out.bel.trans (hbn.mono (by have := HJ.out.mem.k1.1; omega)))⟩, ?_⟩
        · obtain ⟨d, hd, e⟩ := hD'
          rcases List.mem_cons.1 hd with rfl | hd
          · have e2 : D = D' := by injection e
            subst e2
            exact ⟨by omega, fun e => HMD.out (HJ.out.mv _ e)⟩
          · exact ⟨(HDS.out D' ⟨d, hd, e⟩).1, fun e2 => HJ.out.nd D' ⟨d, hd, e⟩ (HJ.out.mv _ e2)⟩
        · show 2402 - boxN (.pointer (some ⟨Wd.heap.size, 0, none⟩)) _ < 2402 - boxN (.pointer (some ⟨B5, 0, none⟩)) wr
          rw [boxN_blk K5.out, boxN_blk (i := i + 1) (by rw [← hii]; exact Blk.new _ _ _)]
          omega
    · obtain rfl : i = o.length := by omega
      have hno := HM.out.own
      have HSRT := zH (hSort_any o (.slice av o.length cv) (S + 1) wr HM.out.own (by omega) HQ.out.nd (fun a ha => (HSH.out a ha).len))
      have HDN := zH (fun t => HQ.out.done t)
      have HNE := zH HM.out.ne
      have HGT := zH (fun k (e : (Value.slice av o.length cv).ownBlock = some k) => (HM.out.own.lt k e).1)
      have HD2 := zH (fun D (hD : ∃ d ∈ ds, d.target = .collected D) => (HDS.out D hD).2)
      obtain ⟨no, hno⟩ : ∃ q, o.length = q := ⟨_, rfl⟩
      have HNO := zH hno
      rw [hno] at HSRT k4 k5 HNE HGT HD2
      clear hno
      have hsl : ¬ (no : Int) < (no : Int) := by omega
      gi_wp2_with fail
      clear k1 k4 k5
      refine ⟨trivial, (callsIn_wide.2 HSRT.out).mono ?_⟩
      rintro e w8 ⟨rfl, l', hs', hm', hl', hown', hg'⟩
      have K4 := zH (blk_grown HM.out.k4 hg' HNE.out)
      have HB8 : Hid (Below w.heap.size w w8) := zH (HB.out.grown hg' HB.out.size (fun k e => by have := HGT.out k e; have := HM.out.lt; omega))
      have HMK8 : Hid (Marks ds w8) := zH (HMK.out.same (fun D hD => hg'.block D (HMK.out.lt hD) (fun e => HD2.out D hD e.symm)))
      rw [HNO.out] at K4
      obtain ⟨-, k4, -⟩ := K4.out
      gi_wp2_with fail
      refine leaves_marks ds w8 HMK8.out (fun w9 hsame hsz hos htp hou => ?_)
      have hav : ∀ k, (Value.slice av no cv).ownBlock = some k → w9.heap[k]? = w8.heap[k]? := fun k e => hsame k (fun d hd e2 => HD2.out k ⟨d, hd, e2⟩ e)
      have hown9 : w9.ownsRow (S + 1) stH 4 (.slice av no cv) no (hcells l') := by
        refine ⟨hown'.1, ?_⟩
        rcases hown'.2 with h | ⟨g, cap, cur, e, h1, h2, h3⟩
        · exact .inl h
        · exact .inr ⟨g, cap, cur, e, h1, by rw [hav g (by rw [e]; rfl)]; exact h2, h3⟩
      have hb9 : Below w.heap.size w w9 := ⟨hos.trans HB8.out.os, htp.trans HB8.out.tape, hou.trans HB8.out.output, by rw [hsz]; exact HB8.out.size, fun k hk => (hsame k (fun d hd e => by
        have h1 := (HDS.out k ⟨d, hd, e⟩).1
        have h2 := HM.out.lt
        omega)).trans (HB8.out.block k hk)⟩
      obtain ⟨a', c', e', -, hr, -⟩ := Reads.of_row (f := hsts l') hown9 (fun j hj => hcells_get l' j (by rw [hl']; exact hj))
      injection e' with ea en ec
      subst ea ec
      refine ⟨.slice av no cv, ?_, ?_⟩
      · simp [results, Try.results29, go_sem]
      · exact ⟨av, cv, l', by rw [hl'], by rw [hl']; exact hr, hs', fun t ht => HSH.out t ((hm' t).1 ht), fun t => (hm' t).trans (HDN.out t), hb9⟩
end
end Go.Proofs.Ytfdlhhinomjakaa
