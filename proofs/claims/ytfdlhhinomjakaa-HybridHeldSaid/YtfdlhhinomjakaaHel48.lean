/-
  Texts of this claim, in their build order: Lib22 BS13 BS20 K1 BL2 BL3 BL4 BL5.
-/
import Derived.Test.YtfdlhhinomjakaaHel7
import Derived.ArgAppend
import Derived.Test.YtfdlhhinomjakaaHel27
import Derived.Test.YtfdlhhinomjakaaHel37
import Derived.Test.YtfdlhhinomjakaaHel8
import Derived.Test.YtfdlhhinomjakaaHel38
import Derived.Test.YtfdlhhinomjakaaHel47
import Derived.Test.YtfdlhhinomjakaaHel36
import Derived.Test.YtfdlhhinomjakaaHel11
import Derived.Test.YtfdlhhinomjakaaHel21
import Derived.Test.YtfdlhhinomjakaaHel24
import Derived.Test.YtfdlhhinomjakaaHel32
import Derived.Test.YtfdlhhinomjakaaHel45
import Derived.Test.YtfdlhhinomjakaaHel2
import Derived.Test.YtfdlhhinomjakaaHel0

namespace Go.Proofs.Ytfdlhhinomjakaa
section
open Go.RowKit

theorem wpListIn_appNew {F : Fence} {d : Nat} {P : Program} {w : World} {ops : Array Oper} {rest : List Oper} {o : Oper} {b : Act} {Q : Exit → Act → World → Prop} {size bytes n cap : Nat} {t e : TypeId} {z : Value} {xs : List Value} (rt : RowTy P t e size bytes z)
    (hg : o.guard = none) (s x : Operand) (hop : o.op = Op.call { callee := Callee.builtin Builtin.append, args := #[s, x], argTypes := #[t, t] })
    (p : Addr) (hs : b.eval s = .slice (some p) n cap) (hlo : xs.length = n * size) (holds : ∀ j u, xs[j]? = some u → w.cell? (p.add j) = some u) (a : Addr) (m c : Nat) (news : List Value) (hx : b.eval x = .slice (some a) m c)
    (hl : news.length = m * size) (hnews : ∀ j u, news[j]? = some u → w.cell? (a.add j) = some u)
    (hcap : cap < n + m) (h63 : n + m ≤ maxLen) (hbytes : (n + m) * bytes ≤ 140737488355328)
    (hK : ∀ v' w', w'.ownsRow w.heap.size e size v' (n + m) (xs ++ news) → w.grownBy w' none → wpListIn F d P ops Q rest (b.put o.dst v') w') :
    wpListIn F d P ops Q (o :: rest) b w := by
  obtain ⟨i, hi, hz, hsi, hb⟩ := rt.i
  refine wpListIn_plain hg fun K hK' => ?_
  obtain ⟨v', w', hr, r1, r2⟩ := run_append_arg_grows (P := P) w t o.type e i z size bytes rt.u hi hz hsi hb rt.zs rt.pos p n cap xs hlo holds a m c news hl hnews hcap h63 hbytes
  unfold Oper.wpIn
  refine ⟨?_, ?_⟩
  · simp [Oper.about, hop, resolve, Target.leads, Sem.run_pure]
  · rw [Oper.semAt_plain F _ _ (by rw [hop]; intro c hc'; cases hc')]
    simp [execOp, hop, resolve, invoke, builtin, hs, hx, hr, Result.andThen]
    exact hK' _ _ (hK v' w' r1 r2)
theorem below_grown_none {w w' : World} (h : w.grownBy w' none) : Below w.heap.size w w' := ⟨h.os, h.tape, h.output, h.size, fun k hk => h.block k hk (by simp)⟩
end
section
open Go.RowKit
attribute [local go_sem] Oper.semAt_some

theorem onesQ (t : List Int) : ∀ u ∈ [Value.int .i64 (gi t 0), .int .i64 (gi t 1), .int .i64 (gi t 2), .int .i64 (gi t 3)], u.oneCell' = true := by
  intro u hu
  simp only [List.mem_cons, List.not_mem_nil, or_false] at hu
  rcases hu with h | h | h | h <;> rw [h] <;> rfl
theorem goW_sth {x : HT} {F : List Int} {i : Nat} {s : Sr (List Int)} (hx : x.ok) (h : SrQ (nxH x) F [0, 0, 0, 0] i s) : ∀ b ∈ s.fnd, StH b.1 := fun b hb => goW_st hx b.2 _ _ StH.zero (h.inv.way b hb).1
theorem few_sr {l : List (List Int × List Int)} (hn : (l.map (·.1)).Nodup) (hs : ∀ b ∈ l, StH b.1) : l.length ≤ 2401 := by
  have h := few_sth hn (fun a ha => by obtain ⟨b, hb, rfl⟩ := List.mem_map.1 ha; exact hs b hb)
  rwa [List.length_map] at h

set_option maxHeartbeats 6400000 in
set_option maxRecDepth 100000 in
theorem search_any (x : HT) (w : World) (hx : x.ok) :
    Calls Try.prog 32 #[.agg x.cells] w fun e w' => SchPost x w e w' := by
  have hmm := @run_makeMap Try.prog
  have hund : Try.prog.underlying 74 = some (.map stH 26) := by kernel_rfl
  obtain ⟨W0, hW0⟩ : ∃ u, ((w.alloc (.cells x.cells 68)).alloc (.cells #[.map none] 74)).alloc (.cells #[.slice none 0 0] 26) = u := ⟨_, rfl⟩
  have HB0 : Hid (Below w.heap.size w W0) := by subst hW0; exact zH (bAlloc (bAlloc (bAlloc (bSelf _) _) _) _)
  have KX : Hid (Blk W0 w.heap.size x.cells) := by subst hW0; exact zH (((Blk.new _ _ _).alloc _).alloc _)
  have K2 : Hid (Blk W0 (w.heap.size + 1) #[.map none]) := by subst hW0; exact zH ((Blk.newAt _ _ _ (by simp)).alloc _)
  have K3 : Hid (Blk W0 (w.heap.size + 1 + 1) #[.slice none 0 0]) := by subst hW0; exact zH (Blk.newAt _ _ _ (by simp))
  have HS0 : Hid (W0.heap.size = w.heap.size + 3) := by subst hW0; exact zH (by simp)
  obtain ⟨W3, hput, hmp, hgr⟩ := ((MapV.new W0).to (bAlloc (bSelf _) (.cells #[] 3))).put hund StH.zero.key (by unfold maxLen; omega) (.slice (some ⟨W0.heap.size + 1, 0, none⟩) 0 0)
  have hput' : (Instr.mapUpdate 74 (.map (some W0.heap.size)) (.agg #[.int .i64 0, .int .i64 0, .int .i64 0, .int .i64 0]) (.slice (some ⟨W0.heap.size + 1, 0, none⟩) 0 0)).run Try.prog ((W0.alloc (.map #[] 0)).alloc (.cells #[] 3)) = .ok () W3 := hput
  have HMP := zH hmp
  have HGR := zH hgr
  have HF1 := zH (fun f (hf : f ∈ rngL (x.lo, x.hi)) => (show -1000 ≤ f ∧ f ≤ 1000 from by
    have h1 := rngL_mem.1 hf
    have := hx.lo1
    have := hx.hi2
    dsimp only at h1
    omega))
  clear hput hmp hgr
  refine (callsIn_wide (n := 5)).1 ?_
  refine callsIn_of_wp_marks Try.func32 rfl trivial ?_ rfl
  simp only [Try.ntmps32, List.size_toArray, List.length_cons, List.length_nil, Nat.reduceAdd, Nat.reduceSub, Array.replicate_succ, Array.replicate_zero, List.push_toArray, List.append_toArray, List.nil_append, List.cons_append]
  gi_wp2_with fail
  have hs3 : W0.heap.size + 2 ≤ W3.heap.size := by have := HGR.out.size; simp only [World.size_alloc] at this; omega
  obtain ⟨W5, hW5⟩ : ∃ u, (((W3.alloc (.cells #[.map (some W0.heap.size)] 74)).alloc (.cells #[.int .i64 0, .int .i64 0, .int .i64 0, .int .i64 0] 72)).alloc (.cells #[.slice (some ⟨W3.heap.size + 1, 0, none⟩) 1 1] 69)) = u := ⟨_, rfl⟩
  rw [hW5]
  have HM0 : Hid (SchM x [([0, 0, 0, 0], [])] 0 w.heap.size W0.heap.size W3.heap.size (W3.heap.size + 1 + 1) (W3.heap.size + 1) (W3.heap.size + 1) 0 1 1 (fun _ => (some ⟨W0.heap.size + 1, 0, none⟩, 0)) W5) := by
    subst hW5
    have hs0 := HS0.out
    refine zH ⟨?_, ?_, ?_, ?_, ?_, ?_, by omega, by omega, by omega, by omega, by omega⟩
    · exact (((blk_grown ((KX.out.alloc _).alloc _) HGR.out (fun e => by injection e with e; omega)).alloc _).alloc _).alloc _
    · refine MapV.ext (MapV.to (MapV.to (MapV.to HMP.out (bAlloc (bSelf _) _)) (bAlloc (bSelf _) _)) (bAlloc (bSelf _) _)) (fun s _ => ?_)
      unfold wayF wyL
      by_cases h : s = [0, 0, 0, 0]
      · simp [h]
      · simp [h]
    · exact ((Blk.new _ _ _).alloc _).alloc _
    · exact Blk.newAt _ _ _ (by simp)
    · have h1 := World.ownsRow_lit (base := W3.heap.size + 1) (e := stH) (size := 4) (W3.alloc (.cells #[.map (some W0.heap.size)] 74)) #[.int .i64 0, .int .i64 0, .int .i64 0, .int .i64 0] 1 (by simp) (by decide) rfl
      rw [World.size_alloc] at h1
      exact QRow.of_owns (owns_to h1 (bAlloc (bSelf _) _))
    · intro a ha
      have : a = ([0, 0, 0, 0], []) := by simpa using ha
      subst this
      refine ⟨.inl rfl, fun q hq => ?_⟩
      cases hq
      refine ⟨?_, ?_, ?_, ?_⟩ <;> simp only [World.size_alloc] <;> omega
  have HK : Hid (Blk W5 (w.heap.size + 1) #[.map none] ∧ Blk W5 (w.heap.size + 1 + 1) #[.slice none 0 0]) := by
    subst hW5
    have hs0 := HS0.out
    exact zH ⟨(((blk_grown ((K2.out.alloc _).alloc _) HGR.out (fun e => by injection e with e; omega)).alloc _).alloc _).alloc _, (((blk_grown ((K3.out.alloc _).alloc _) HGR.out (fun e => by injection e with e; omega)).alloc _).alloc _).alloc _⟩
  have HBL : Hid (Below w.heap.size w W5) := by
    subst hW5
    have hs0 := HS0.out
    have h1 : Below w.heap.size w W3 := (bAlloc (bAlloc HB0.out _) _).grown HGR.out (by simp only [World.size_alloc]; omega) (fun k e => by injection e with e; omega)
    exact zH (bAlloc (bAlloc (bAlloc h1 _) _) _)
  have hs0 : w.heap.size + 1 + 1 < W0.heap.size := by have := HS0.out; omega
  have hsm : Hid (∀ b ∈ [(([0, 0, 0, 0] : List Int), ([] : List Int))], ∃ q, ((fun _ => (some ⟨W0.heap.size + 1, 0, none⟩, 0)) b.1 : Option Addr × Nat).1 = some q ∧ b.2.length ≤ ((fun _ => (some ⟨W0.heap.size + 1, 0, none⟩, 0)) b.1 : Option Addr × Nat).2) := zH (fun b hb => by
    have : b = ([0, 0, 0, 0], []) := by simpa using hb
    subst this
    exact ⟨_, rfl, Nat.le_refl _⟩)
  clear hW5 hput' hmm HMP HGR KX K2 K3 HB0 hW0 HS0
  obtain ⟨S, hS⟩ : ∃ s, W3.heap.size = s := ⟨_, rfl⟩
  rw [hS] at HM0 hs3 ⊢
  clear hS W3
  obtain ⟨bm, hbm⟩ : ∃ s, W0.heap.size = s := ⟨_, rfl⟩
  rw [hbm] at HM0 hs3 hs0 hsm ⊢
  clear hbm W0
  refine wpIn_loop (fun a' w' => ∃ (u6 u19 u20 u21 u22 u23 u24 u25 u26 u27 u28 u63 : Value) (i b5 g off n cap : Nat) (s : Sr (List Int)) (dw : List Int → Option Addr × Nat) (ds : List Deferred), a' = { tmps := #[Value.agg x.cells, Value.pointer (some ⟨w.heap.size, 0, none⟩), Value.pointer (some ⟨w.heap.size + 1, 0, none⟩), Value.pointer (some ⟨w.heap.size + 1 + 1, 0, none⟩), Value.pointer (some ⟨S, 0, none⟩), Value.pointer (some ⟨b5, 0, none⟩), u6, undef, undef, undef, undef, undef, undef, Value.map (some bm), Value.agg #[.int .i64 0, .int .i64 0, .int .i64 0, .int .i64 0], Value.slice (some ⟨bm + 1, 0, none⟩) 0 0, Value.map (some bm), Value.agg #[.int .i64 0, .int .i64 0, .int .i64 0, .int .i64 0], Value.slice (some ⟨S + 1, 0, none⟩) 1 1, u19, u20, u21, u22, u23, u24, u25, u26, u27, u28, undef, undef, undef, undef, undef, undef, undef, undef, undef, undef, undef, undef, undef, undef, undef, undef, undef, undef, undef, undef, undef, undef, undef, undef, undef, undef, undef, undef, undef, undef, undef, undef, undef, undef, u63, undef], defers := ds } ∧ ds.length = i ∧ n + i = s.fnd.length ∧ Hid (SrQ (nxH x) (rngL (x.lo, x.hi)) [0, 0, 0, 0] i s) ∧ Hid (SchM x s.fnd i w.heap.size bm S b5 (S + 1) g off n cap dw w') ∧ Hid (Blk w' (w.heap.size + 1) #[.map none] ∧ Blk w' (w.heap.size + 1 + 1) #[.slice none 0 0]) ∧ Hid (Marks ds w') ∧ Hid (∀ D, (∃ d ∈ ds, d.target = .collected D) → S < D ∧ D ≠ b5 ∧ D ≠ g) ∧ Hid (∀ b ∈ s.fnd, ∃ q, (dw b.1).1 = some q ∧ b.2.length ≤ (dw b.1).2) ∧ Hid (Below w.heap.size w w')) (fun a' _ => 2402 - a'.defers.length) ?_ ?_
  · exact ⟨_, _, _, _, _, _, _, _, _, _, _, _, 0, S + 1 + 1, S + 1, 0, 1, 1, ⟨[([0, 0, 0, 0], [])], none⟩, _, [], rfl, rfl, rfl, zH (SrQ.start _), HM0, HK, zH (Marks.nil _), zH (fun D hD => by obtain ⟨d, hd, -⟩ := hD; cases hd), hsm, HBL⟩
  · clear HM0 HK hsm HBL
    rintro - wr ⟨u6, u19, u20, u21, u22, u23, u24, u25, u26, u27, u28, u63, i, b5, g, off, n, cap, s, dw, ds, rfl, hdl, hni, HQ, HM, HK, HMK, HDS, HSM, HB⟩
    have hsth := goW_sth hx HQ.out
    have hlen := few_sr HQ.out.inv.nd hsth
    obtain ⟨-, k5, -⟩ := HM.out.k5
    obtain ⟨-, k4, -⟩ := HM.out.k4
    obtain ⟨-, k1, -⟩ := HM.out.k1
    by_cases hlt : i < s.fnd.length
    · have hn0 : 0 < n := by omega
      have hn1 : (0 : Int) < (n : Int) := by omega
      obtain ⟨a, hga⟩ : ∃ a, s.fnd[i]? = some a := ⟨_, List.getElem?_eq_getElem hlt⟩
      have ham := List.mem_of_getElem? hga
      have hsa := hsth a ham
      have hla : a.2.length ≤ i := by
        have h1 := HQ.out.len i hlt
        rw [List.getElem?_eq_getElem hlt] at hga
        cases hga
        exact h1
      have hcs : hcells ((s.fnd.map (·.1)).drop i) = [.int .i64 (gi a.1 0), .int .i64 (gi a.1 1), .int .i64 (gi a.1 2), .int .i64 (gi a.1 3)] ++ hcells ((s.fnd.map (·.1)).drop (i + 1)) := by
        rw [List.drop_eq_getElem_cons (by rw [List.length_map]; exact hlt), List.getElem_map]
        have e : s.fnd[i] = a := by rw [List.getElem?_eq_getElem hlt] at hga; exact Option.some.inj hga
        rw [e]
        rfl
      have hat : ∀ j u, [Value.int .i64 (gi a.1 0), .int .i64 (gi a.1 1), .int .i64 (gi a.1 2), .int .i64 (gi a.1 3)][j]? = some u → wr.cell? ⟨g, off + j, none⟩ = some u := fun j u hu => HM.out.qu.at1 j u (by
        rw [hcs, List.getElem?_append_left (List.getElem?_eq_some_iff.1 hu).1]; exact hu)
      have c0 : wr.cell? ⟨g, off, none⟩ = some (.int .i64 (gi a.1 0)) := hat 0 _ rfl
      have c1 : wr.cell? ⟨g, off + 1, none⟩ = some (.int .i64 (gi a.1 1)) := hat 1 _ rfl
      have c2 : wr.cell? ⟨g, off + 2, none⟩ = some (.int .i64 (gi a.1 2)) := hat 2 _ rfl
      have c3 : wr.cell? ⟨g, off + 3, none⟩ = some (.int .i64 (gi a.1 3)) := hat 3 _ rfl
      have HGA := zH hga
      have HCS := zH hcs
      have HNI := zH hni
      have HLT := zH hlt
      have hic : (i : Int) ≤ 2401 := by omega
      have hnc : (n : Int) ≤ 2401 := by omega
      have k1a : ∀ (o : Obj) (j : Nat), (wr.alloc o).cell? ⟨w.heap.size, j, none⟩ = x.cells[j]? := fun o j => (HM.out.k1.alloc o).2.1 j
      clear hga hcs hat hsth hni hlt k1
      gi_wp2_with fail
      obtain ⟨wA, hwA⟩ : ∃ u, wr.alloc (.cells #[.int .i64 (gi a.1 0), .int .i64 (gi a.1 1), .int .i64 (gi a.1 2), .int .i64 (gi a.1 3)] 72) = u := ⟨_, rfl⟩
      rw [hwA]
      have hbA : Below wr.heap.size wr wA := by subst hwA; exact bAlloc (bSelf _) _
      have hzA : wA.heap.size = wr.heap.size + 1 := by subst hwA; simp
      have K6 : Hid (Blk wA wr.heap.size #[.int .i64 (gi a.1 0), .int .i64 (gi a.1 1), .int .i64 (gi a.1 2), .int .i64 (gi a.1 3)]) := by subst hwA; exact zH (Blk.new _ _ _)
      clear hwA k1a c0 c1 c2 c3 k4 k5
      have HFIT : Hid (∀ k, (k = bm ∨ k = b5 ∨ k = g ∨ k = w.heap.size + 1 ∨ k = w.heap.size + 1 + 1) → k < wA.heap.size ∧ w.heap.size ≤ k) := zH (fun k hk => by
        have h1 := HM.out.lt1
        have h2 := HM.out.lt2
        have h3 := HM.out.lt4
        have h4 := HM.out.mp.lt
        have h5 := HM.out.k5.1
        have h6 := HM.out.qu.lt
        have h7 := HM.out.qu.base
        rcases hk with rfl | rfl | rfl | rfl | rfl
        all_goals omega)
      have HLOW : Hid (∀ k, (k = w.heap.size ∨ k = S ∨ k = wr.heap.size ∨ (∃ d ∈ ds, d.target = .collected k)) → k < wA.heap.size ∧ ¬ (k = bm ∨ k = b5 ∨ k = g ∨ k = w.heap.size + 1 ∨ k = w.heap.size + 1 + 1)) := zH (fun k hk => by
        have h1 := HM.out.lt1
        have h2 := HM.out.lt2
        have h3 := HM.out.lt4
        have h4 := HM.out.mp.lt
        have h5 := HM.out.k5.1
        have h6 := HM.out.qu.lt
        have h7 := HM.out.qu.base
        have h8 := HM.out.k4.1
        rcases hk with rfl | rfl | rfl | hk
        · omega
        · omega
        · omega
        · have h9 := HMK.out.lt hk
          obtain ⟨d1, d2, d3⟩ := HDS.out k hk
          omega)
      have HJ0 : Hid (SchJ x s.fnd i w.heap.size bm S b5 (S + 1) wr.heap.size wA.heap.size a.1 w ds g off n cap dw (fun k => k = bm ∨ k = b5 ∨ k = g ∨ k = w.heap.size + 1 ∨ k = w.heap.size + 1 + 1) wA) := zH ⟨HM.out.to hbA, HK.out.1.to hbA, HK.out.2.to hbA, K6.out, bThen HB.out hbA, HMK.out.to hbA, fun k hk => .inl (by
          have h1 := HM.out.lt1
          have h2 := HM.out.lt2
          have h4 := HM.out.mp.lt
          have h5 := HM.out.k5.1
          have h6 := HM.out.qu.lt
          have h8 := HM.out.k4.1
          rcases hk with rfl | rfl | rfl | rfl | rfl | ⟨b, hb, q, hq, rfl⟩
          · omega
          · omega
          · omega
          · omega
          · omega
          · have := ((HM.out.wy b hb).2 q hq).1; omega), HLOW.out, hs0, by have := HM.out.mp.lt; omega, .inr (.inr (.inr (.inl rfl))), .inr (.inr (.inr (.inr rfl))), .inl rfl, .inr (.inl rfl), .inr (.inr (.inl rfl)), HSM.out, HFIT.out⟩
      have hI0 : ∃ (g0 off0 n0 cap0 : Nat) (dw0 : List Int → Option Addr × Nat), (([] : List Int).foldl (srC (nxH x) a) s).stp = none ∧ n0 + i = (([] : List Int).foldl (srC (nxH x) a) s).fnd.length ∧ SchJ x (([] : List Int).foldl (srC (nxH x) a) s).fnd i w.heap.size bm S b5 (S + 1) wr.heap.size wA.heap.size a.1 w ds g0 off0 n0 cap0 dw0 (fun k => k = bm ∨ k = b5 ∨ k = g ∨ k = w.heap.size + 1 ∨ k = w.heap.size + 1 + 1) wA := ⟨g, off, n, cap, dw, HQ.out.go, HNI.out, HJ0.out⟩
      have hlow2 : w.heap.size + 1 + 1 < wA.heap.size := HJ0.out.lo2
      refine wpIn_rangeFunc_B (xs := rngL (x.lo, x.hi)) rfl (by intro args w; go_simp) (forces_in 4 x wA hx) (bSelf _) (fun _ => rfl) (fun _ h => h.elim)
        (fun pre M1 W => ∃ (g0 off0 n0 cap0 : Nat) (dw0 : List Int → Option Addr × Nat), (pre.foldl (srC (nxH x) a) s).stp = none ∧ n0 + i = (pre.foldl (srC (nxH x) a) s).fnd.length ∧ SchJ x (pre.foldl (srC (nxH x) a) s).fnd i w.heap.size bm S b5 (S + 1) wr.heap.size wA.heap.size a.1 w ds g0 off0 n0 cap0 dw0 M1 W)
        (fun c pre W => SchX x a s bm w ds c pre W) (fun k => k = bm ∨ k = b5 ∨ k = g ∨ k = w.heap.size + 1 ∨ k = w.heap.size + 1 + 1) (fun k hk => ⟨(HFIT.out k hk).1, fun h => h.elim⟩)
        (fun pre M1 W1 W2 h hag => by obtain ⟨g0, off0, n0, cap0, dw0, h1, h2, h3⟩ := h; exact ⟨g0, off0, n0, cap0, dw0, h1, h2, h3.agree hag⟩) (fun c pre W1 l o h hl ho => h.put hlow2 (fun D hD => (HLOW.out D (.inr (.inr (.inr hD)))).1) hl ho)
        (fun b pre f M1 a₁ W => (∃ (g0 off0 n0 cap0 : Nat) (dw0 : List Int → Option Addr × Nat), (pre.foldl (srC (nxH x) a) s).stp = none ∧ n0 + i = (pre.foldl (srC (nxH x) a) s).fnd.length ∧ SchJ x (pre.foldl (srC (nxH x) a) s).fnd i w.heap.size bm S b5 (S + 1) wr.heap.size wA.heap.size a.1 w ds g0 off0 n0 cap0 dw0 M1 W) ∧ a₁ = { tmps := (b.tmps.setIfInBounds 29 (.int .i64 f)).setIfInBounds 7 (.int .i64 f), defers := [] })
        ?hI1 hI0 ?hassign ?hbody ?hdone ?hstop
      case hI1 =>
        rintro pre f M1 a₁ Wa Wb ⟨⟨g0, off0, n0, cap0, dw0, h1, h2, h3⟩, rfl⟩ hag
        exact ⟨⟨g0, off0, n0, cap0, dw0, h1, h2, h3.agree hag⟩, rfl⟩
      case hassign =>
        intro l pre f rest M1 Wa hxs hI hszA
        gi_wp2_with fail
        exact ⟨M1, ⟨hI, rfl⟩, Upd.refl (fun k hk => by obtain ⟨g0, off0, n0, cap0, dw0, h1, h2, h3⟩ := hI; exact (h3.fit k hk).1)⟩
      case hbody =>
        rintro l pre f rest M1 a₁ Wa hxs ⟨⟨g0, off0, n0, cap0, dw0, hgo, hn0i, hJ⟩, rfl⟩ hszA
        simp only [zzT, zzO, zzS]
        have hfm : f ∈ rngL (x.lo, x.hi) := by rw [hxs]; simp
        obtain ⟨hf1, hf2⟩ := HF1.out f hfm
        obtain ⟨⟨m, hom⟩, hnd, hst⟩ := HQ.out.pre (rngL_srt _) HGA.out hxs hgo
        have HSTO := zH hst
        have hst2 : ∀ b ∈ (pre.foldl (srC (nxH x) a) s).fnd, StH b.1 := fun b hb => goW_st hx b.2 _ _ StH.zero (hst b hb)
        have hfew := few_sr hnd hst2
        have hin : a ∈ (pre.foldl (srC (nxH x) a) s).fnd := by rw [hom]; exact List.mem_append_left _ ham
        have hil : i ≤ (pre.foldl (srC (nxH x) a) s).fnd.length := by omega
        have HSN := zH (show (pre ++ [f]).foldl (srC (nxH x) a) s = srC (nxH x) a (pre.foldl (srC (nxH x) a) s) f from by rw [List.foldl_append]; rfl)
        have HOT := zH (fun (h : inB x (nextV x a.1 f) = false) => srH_out (a := a) hgo h)
        have HAI := zH (fun (h : inB x (nextV x a.1 f) = true) hm => srH_in (a := a) hgo h hm)
        have HAW := zH (fun (h : inB x (nextV x a.1 f) = true) hm => srH_new (a := a) hgo h hm)
        obtain ⟨s1, hs1⟩ : ∃ q, pre.foldl (srC (nxH x) a) s = q := ⟨_, rfl⟩
        rw [hs1] at hgo hn0i hJ hnd hst2 hfew hin hil HSN HOT HAI HAW
        have HNX := zH (fun W => nextH_any x a.1 f W hx hsa hf1 hf2)
        have HKY := zH (nextH_key hx hsa hf1 hf2)
        have HKA := zH hsa.key
        obtain ⟨is, his⟩ : ∃ b, inB x (nextV x a.1 f) = b := ⟨_, rfl⟩
        obtain ⟨t, ht⟩ : ∃ t, nextL x a.1 (nextV x a.1 f) = t := ⟨_, rfl⟩
        rw [his, ht] at HNX
        rw [ht] at HKY
        rw [his] at HOT HAI HAW
        rw [ht] at HAI HAW
        have HJ := zH hJ
        have HND := zH hnd
        have HIN := zH hin
        obtain ⟨-, k1, -⟩ := hJ.mem.k1
        obtain ⟨-, k6, -⟩ := hJ.k6
        have HGO := zH hgo
        clear hom his ht hJ hxs hfm hnd hst hst2 hin hs1 hgo
        gi_wp2_with fail
        refine ⟨trivial, ((callsIn_wide.2 (HNX.out _)).inRound l).mono ?_⟩
        rintro e w2 ⟨rfl, hb2⟩
        have HJ2 := zH (HJ.out.to hb2)
        have HB2 := zH hb2
        clear k1 k6 hb2

        obtain ⟨qa, hqa, hqc⟩ := HJ2.out.sm a HIN.out
        have hway := wayF_at (dw := dw0) HND.out HIN.out
        have hwy := (HJ2.out.mem.wy a HIN.out).1
        rw [hqa] at hway hwy
        obtain ⟨qc, hqc2⟩ : ∃ q, (dw0 a.1).2 = q := ⟨_, rfl⟩
        rw [hqc2] at hway hqc
        obtain ⟨la, hla2⟩ : ∃ q, a.2.length = q := ⟨_, rfl⟩
        rw [hla2] at hway hqc hla
        have HLA := zH hla2
        obtain ⟨w3, hw3⟩ : ∃ u, w2.alloc (.cells #[.int .i64 (gi t 0), .int .i64 (gi t 1), .int .i64 (gi t 2), .int .i64 (gi t 3)] 72) = u := ⟨_, rfl⟩
        have hb3 : Below w2.heap.size w2 w3 := by subst hw3; exact bAlloc (bSelf _) _
        have HKN : Hid (Blk w3 w2.heap.size #[.int .i64 (gi t 0), .int .i64 (gi t 1), .int .i64 (gi t 2), .int .i64 (gi t 3)]) := by subst hw3; exact zH (Blk.new _ _ _)
        have HJ3 := zH (HJ2.out.to hb3)
        have HB3 := zH (bThen HB2.out hb3)
        have HRW := zH (hwy.to hb3)
        have HZ : ∀ W, (zeroValue 26).run Try.prog W = .ok (.slice none 0 0) W := fun W => by kernel_rfl
        have HZH := zH HZ
        have hask : (Instr.lookup 74 (.map (some bm)) (.agg #[.int .i64 (gi a.1 0), .int .i64 (gi a.1 1), .int .i64 (gi a.1 2), .int .i64 (gi a.1 3)]) false).run Try.prog w3 = .ok (.slice (some qa) la qc) w3 := by
          have h1 := HJ3.out.mem.mp.ask hund (HZ _) HKA.out
          rw [hway] at h1
          exact h1
        obtain ⟨-, k4, -⟩ := HJ3.out.mem.k4
        obtain ⟨-, k6, -⟩ := HJ3.out.k6
        have HCL := zH (fun W => Clip_any (some qa) la qc W (by omega) hqc (fun e => by cases e))
        have hla3 : (la : Int) ≤ 2401 := by omega
        clear hqa hway hwy hqc2 hla2 hqc hb3 HZ
        gi_wp2_with fail
        refine ⟨trivial, ((callsIn_wide.2 (HCL.out _)).inRound l).mono ?_⟩
        rintro e w3 ⟨rfl, rfl⟩
        clear hask k4 k6 HCL hw3

        obtain ⟨BN, hBN⟩ : ∃ N, w2.heap.size = N := ⟨_, rfl⟩
        have HBN : Hid (Wa.heap.size ≤ BN) := zH (by have := HB2.out.size; omega)
        rw [hBN] at HKN ⊢
        clear hBN HB2 HJ2
        cases is
        case false =>
          have hso := HOT.out (by first | rfl | trivial)
          have HSO := zH hso
          clear HAI HAW hso
          gi_wp2_with (gi_at_builtin; go_loud (refine wpListIn_appNew rtInt rfl (.tmp 40) (.tmp 42) rfl qa rfl (xs := a.2.map fun z => Value.int .i64 z) (by rw [List.length_map, HLA.out, Nat.mul_one]) (Reads.news' (HRW.out.alloc _)) ⟨w3.heap.size, 0, none⟩ 1 1 [.int .i64 f] rfl rfl (cell_one_new _ _ _) (by omega) (by unfold maxLen; omega) (by omega) ?_; intro v7 w7 hown hgrow; obtain ⟨g7, c7, rfl⟩ := ownsRow_succ hown; have hB7 : Below w3.heap.size w3 w7 := bThen (bAlloc (bSelf _) _) (below_grown_none hgrow); have HW7 := zH (way_row HLA.out hown); have HJ7 := zH (HJ3.out.to hB7); have HK7 := zH (HKN.out.to hB7); have HB7 := zH (bThen HB3.out hB7); have HS7 : Hid (w3.heap.size ≤ w7.heap.size) := zH hB7.size; clear hown hgrow hB7; obtain ⟨-, k4, -⟩ := HJ7.out.mem.k4; obtain ⟨-, k2, f2⟩ := HJ7.out.k2; obtain ⟨-, k3, f3⟩ := HJ7.out.k3))
          obtain ⟨hX, hU⟩ := HJ7.out.leave (c7 := c7) (ln := la + 1) (pre := pre ++ [f]) (Upd.of_below (fun k hk => (HJ.out.fit k hk).1) HB7.out) (by rw [HSN.out, HSO.out]) (by rw [List.length_append, HLA.out]; rfl) HW7.out.1 (by have h1 := HW7.out.2.1; have h2 := HB3.out.size; (try simp only [World.size_alloc] at h1); omega) HW7.out.2.2.2.2
          exact ⟨M1, hX, hU⟩
        case true =>
          by_cases hin : t ∈ s1.fnd.map (·.1)
          · have HDC : Hid (decide (t ∈ s1.fnd.map (·.1)) = true) := zH (decide_eq_true hin)
            have hso := HAI.out (by first | rfl | trivial) hin
            have HSO := zH hso
            clear HAI HAW HOT hso hin
            gi_wp2_with (gi_at_builtin; go_loud (refine wpListIn_appNew rtInt rfl (.tmp 40) (.tmp 42) rfl qa rfl (xs := a.2.map fun z => Value.int .i64 z) (by rw [List.length_map, HLA.out, Nat.mul_one]) (Reads.news' (HRW.out.alloc _)) ⟨w3.heap.size, 0, none⟩ 1 1 [.int .i64 f] rfl rfl (cell_one_new _ _ _) (by omega) (by unfold maxLen; omega) (by omega) ?_; intro v7 w7 hown hgrow; obtain ⟨g7, c7, rfl⟩ := ownsRow_succ hown; have hB7 : Below w3.heap.size w3 w7 := bThen (bAlloc (bSelf _) _) (below_grown_none hgrow); have HW7 := zH (way_row HLA.out hown); have HJ7 := zH (HJ3.out.to hB7); have HK7 := zH (HKN.out.to hB7); have HB7 := zH (bThen HB3.out hB7); have HS7 : Hid (w3.heap.size ≤ w7.heap.size) := zH hB7.size; clear hown hgrow hB7; obtain ⟨-, k4, -⟩ := HJ7.out.mem.k4; obtain ⟨-, kn, -⟩ := HK7.out; have hask2 : (Instr.lookup 74 (.map (some bm)) (.agg #[.int .i64 (gi t 0), .int .i64 (gi t 1), .int .i64 (gi t 2), .int .i64 (gi t 3)]) true).run Try.prog w7 = .ok (.tuple #[(wayF s1.fnd dw0 t).getD (.slice none 0 0), .bool true]) w7 := (by have h1 := HJ7.out.mem.mp.askOk hund (HZH.out _) HKY.out; rw [wayF_is, HDC.out] at h1; exact h1)))
            exact ⟨M1, ⟨g0, off0, n0, cap0, dw0, by rw [HSN.out, HSO.out]; exact HGO.out, by rw [HSN.out, HSO.out]; exact hn0i, by rw [HSN.out, HSO.out]; exact HJ7.out⟩, (Upd.of_below (fun k hk => (HJ.out.fit k hk).1) HB7.out)⟩
          · have HDC : Hid (decide (t ∈ s1.fnd.map (·.1)) = false) := zH (decide_eq_false hin)
            have hso := HAW.out (by first | rfl | trivial) hin
            have HSO := zH hso
            have HIN2 := zH hin
            clear HAI HAW HOT hso hin
            gi_wp2_with (first | (gi_at_builtin; (refine wpListIn_appNew rtInt rfl (.tmp 40) (.tmp 42) rfl qa rfl (xs := a.2.map fun z => Value.int .i64 z) (by rw [List.length_map, HLA.out, Nat.mul_one]) (Reads.news' (HRW.out.alloc _)) ⟨w3.heap.size, 0, none⟩ 1 1 [.int .i64 f] rfl rfl (cell_one_new _ _ _) (by omega) (by unfold maxLen; omega) (by omega) ?_; intro v7 w7 hown hgrow; obtain ⟨g7, c7, rfl⟩ := ownsRow_succ hown; have hB7 : Below w3.heap.size w3 w7 := bThen (bAlloc (bSelf _) _) (below_grown_none hgrow); have HW7 := zH (way_row HLA.out hown); have HJ7 := zH (HJ3.out.to hB7); have HK7 := zH (HKN.out.to hB7); have HB7 := zH (bThen HB3.out hB7); have HS7 : Hid (w3.heap.size ≤ w7.heap.size) := zH hB7.size; clear hown hgrow hB7; obtain ⟨-, k4, -⟩ := HJ7.out.mem.k4; obtain ⟨-, kn, -⟩ := HK7.out; have hask2 : (Instr.lookup 74 (.map (some bm)) (.agg #[.int .i64 (gi t 0), .int .i64 (gi t 1), .int .i64 (gi t 2), .int .i64 (gi t 3)]) true).run Try.prog w7 = .ok (.tuple #[(wayF s1.fnd dw0 t).getD (.slice none 0 0), .bool false]) w7 := (by have h1 := HJ7.out.mem.mp.askOk hund (HZH.out _) HKY.out; rw [wayF_is, HDC.out] at h1; exact h1); obtain ⟨W1, hput, hmp1, hgr1⟩ := HJ7.out.mem.mp.put hund HKY.out (by unfold maxLen; omega) (.slice (some ⟨g7, 0, none⟩) (la + 1) c7); have hput' : (Instr.mapUpdate 74 (.map (some bm)) (.agg #[.int .i64 (gi t 0), .int .i64 (gi t 1), .int .i64 (gi t 2), .int .i64 (gi t 3)]) (.slice (some ⟨g7, 0, none⟩) (la + 1) c7)).run Try.prog w7 = .ok () W1 := hput; have HMP1 := zH hmp1; have HGR1 := zH hgr1; have HK5 := zH (blk_grown HJ7.out.mem.k5 hgr1 (fun e => by injection e with e; have := HJ7.out.mem.lt2; have := HJ7.out.mem.lt4; omega)); have HKN1 := zH (blk_grown HK7.out hgr1 (fun e => by injection e with e; have := (HJ.out.fit bm HJ.out.mm).1; have := HBN.out; omega)); have HQ1 := zH (HJ7.out.mem.qu.grown hgr1 (fun e => by injection e with e; have := HJ7.out.mem.lt2; have := HJ7.out.mem.lt3; have := HJ7.out.mem.qu.base; omega)); have HS1 : Hid (S + 1 ≤ W1.heap.size) := zH (by have := hgr1.size; have := HJ7.out.mem.k4.1; omega); obtain ⟨-, k5, -⟩ := HK5.out; obtain ⟨-, kn1, -⟩ := HKN1.out; clear hput hmp1 hgr1)) | (gi_at_builtin; go_loud (refine wpListIn_appQ rtHs rfl (.tmp 59) (.tmp 61) rfl rfl (HQ1.out.to (bAlloc (bSelf _) _)) ⟨W1.heap.size, 0, none⟩ 1 1 [.int .i64 (gi t 0), .int .i64 (gi t 1), .int .i64 (gi t 2), .int .i64 (gi t 3)] rfl rfl (Blk.new W1 #[.int .i64 (gi t 0), .int .i64 (gi t 1), .int .i64 (gi t 2), .int .i64 (gi t 3)] 72).news (onesQ t) (by unfold maxLen; omega) (by omega) (by have := HS1.out; simp only [World.size_alloc]; omega) ?_; intro g8 off8 cap8 w8 hq8 hgr8 hgg8; have HQ8 := zH hq8; have HG8 := zH hgr8; have HGG8 := zH hgg8; have hk5 := blk_grown (HK5.out.alloc (.cells #[.int .i64 (gi t 0), .int .i64 (gi t 1), .int .i64 (gi t 2), .int .i64 (gi t 3)] 72)) hgr8 (fun e => by injection e with e; exact HJ7.out.mem.ne e); have k5x := hk5.2.1; have f5x := hk5.2.2; clear hq8 hgr8 hgg8 hk5)))
            obtain ⟨M2, hJ2, hU2⟩ := HJ7.out.add (t := t) (ws := a.2 ++ [f]) (p := (some ⟨g7, 0, none⟩, c7)) (Upd.of_below (fun k hk => (HJ.out.fit k hk).1) HB7.out) (fun k hk => (HJ.out.fit k hk).1) hszA HW7.out.1 ⟨_, rfl, by have h1 := HW7.out.2.1; have h2 := HB3.out.size; (try simp only [World.size_alloc] at h1); dsimp only; omega, HW7.out.2.2.1⟩ HW7.out.2.2.2.1 HIN2.out hil (by rw [List.length_append, HLA.out]; exact HMP1.out) HGR1.out HQ8.out HG8.out HGG8.out
            exact ⟨M2, ⟨g8, off8, n0 + 1, cap8, _, by rw [HSN.out, HSO.out], by rw [HSN.out, HSO.out, List.length_append, ← hn0i]; simp only [List.length_cons, List.length_nil]; omega, by rw [HSN.out, HSO.out]; exact hJ2⟩, hU2⟩
      case hdone =>
        intro D M1 Wd hD hMD hI hdef
        obtain ⟨g1, off1, n1, cap1, dw1, hgo1, hn1i, hJ1⟩ := hI
        have HJ := zH hJ1
        have HD := zH hdef
        have HMD := zH hMD
        have HGO := zH hgo1
        have HN1 := zH hn1i
        have hpos : 1 ≤ n1 := by
          obtain ⟨m, hm⟩ := fold_pre (nx := nxH x) (a := a) (rngL (x.lo, x.hi)) s
          rw [hm, List.length_append] at hn1i
          have := HLT.out
          omega
        have hpos2 : (1 : Int) ≤ (n1 : Int) := by omega
        have hroom := hJ1.mem.qu.room
        have hroom2 : (n1 : Int) ≤ (cap1 : Int) := by omega
        have hmost := hJ1.mem.qu.most
        obtain ⟨-, k5, -⟩ := hJ1.mem.k5
        clear hJ1 hdef hMD hI0 hgo1 hn1i
        by_cases hc1 : cap1 = 1
        · subst hc1
          obtain rfl : n1 = 1 := by omega
          gi_wp2_with fail
          obtain ⟨s2, hs2⟩ : ∃ q, (rngL (x.lo, x.hi)).foldl (srC (nxH x) a) s = q := ⟨_, rfl⟩
          have HQ2 : Hid (SrQ (nxH x) (rngL (x.lo, x.hi)) [0, 0, 0, 0] (i + 1) s2) := zH (by
            rcases HQ.out.step (rngL_srt _) HGA.out with h1 | ⟨w', h1, h2⟩
            · have e : srI (nxH x) (rngL (x.lo, x.hi)) s a = s2 := hs2
              rw [e] at h1; exact h1
            · have e : (srI (nxH x) (rngL (x.lo, x.hi)) s a).stp = none := HGO.out
              rw [e] at h1; cases h1)
          have hbn := fun (o : Obj) => (bAlloc (bSelf Wd) o : Below Wd.heap.size Wd (Wd.alloc o))
          have HJ2 := zH HJ.out
          rw [hs2] at HJ2 HN1
          refine ⟨⟨_, _, _, _, _, _, _, _, _, _, _, _, i + 1, Wd.heap.size, g1, off1, 0, 0, s2, dw1, { target := .collected D, args := #[] } :: ds, rfl, by rw [List.length_cons, hdl], by have := HN1.out; omega, HQ2, zH (HJ2.out.mem.next (by have := HN1.out; omega) HN1.out (by rw [if_pos rfl]) _), zH ⟨HJ2.out.k2.to (hbn _), HJ2.out.k3.to (hbn _)⟩, zH (Marks.cons HMK.out (HJ2.out.mks.to (hbn _)) (by omega) (((hbn _).block D (Array.getElem?_eq_some_iff.1 HD.out).1).trans HD.out)), zH (fun D' hD' => ?_), zH HJ2.out.sm, zH (HJ2.out.bel.trans ((hbn _).mono (by have := HJ2.out.mem.k1.1; omega)))⟩, ?_⟩
          · obtain ⟨d, hd, e⟩ := hD'
            have hSw := HM.out.k4.1
            rcases List.mem_cons.1 hd with rfl | hd
            · have e2 : D = D' := by injection e
              subst e2
              have := (Array.getElem?_eq_some_iff.1 HD.out).1
              exact ⟨by omega, by omega, fun e => HMD.out (e ▸ HJ2.out.mg)⟩
            · have h3 := HJ2.out.low D' (.inr (.inr (.inr ⟨d, hd, e⟩)))
              have h4 := HJ2.out.mks.lt ⟨d, hd, e⟩
              exact ⟨(HDS.out D' ⟨d, hd, e⟩).1, by omega, fun e => h3.2 (e ▸ HJ2.out.mg)⟩
          · show 2402 - ({ target := .collected D, args := #[] } :: ds : List Deferred).length < 2402 - ds.length
            rw [List.length_cons, hdl]
            omega
        · have hc2 : ¬ (cap1 : Int) = 1 := by omega
          gi_wp2_with fail
          obtain ⟨s2, hs2⟩ : ∃ q, (rngL (x.lo, x.hi)).foldl (srC (nxH x) a) s = q := ⟨_, rfl⟩
          have HQ2 : Hid (SrQ (nxH x) (rngL (x.lo, x.hi)) [0, 0, 0, 0] (i + 1) s2) := zH (by
            rcases HQ.out.step (rngL_srt _) HGA.out with h1 | ⟨w', h1, h2⟩
            · have e : srI (nxH x) (rngL (x.lo, x.hi)) s a = s2 := hs2
              rw [e] at h1; exact h1
            · have e : (srI (nxH x) (rngL (x.lo, x.hi)) s a).stp = none := HGO.out
              rw [e] at h1; cases h1)
          have hbn := fun (o : Obj) => (bAlloc (bSelf Wd) o : Below Wd.heap.size Wd (Wd.alloc o))
          have HJ2 := zH HJ.out
          rw [hs2] at HJ2 HN1
          refine ⟨⟨_, _, _, _, _, _, _, _, _, _, _, _, i + 1, Wd.heap.size, g1, (off1 + 4), n1 - 1, (cap1 - 1), s2, dw1, { target := .collected D, args := #[] } :: ds, rfl, by rw [List.length_cons, hdl], by have := HN1.out; omega, HQ2, zH (HJ2.out.mem.next (by have := HN1.out; omega) HN1.out (by rw [if_neg hc1]) _), zH ⟨HJ2.out.k2.to (hbn _), HJ2.out.k3.to (hbn _)⟩, zH (Marks.cons HMK.out (HJ2.out.mks.to (hbn _)) (by omega) (((hbn _).block D (Array.getElem?_eq_some_iff.1 HD.out).1).trans HD.out)), zH (fun D' hD' => ?_), zH HJ2.out.sm, zH (HJ2.out.bel.trans ((hbn _).mono (by have := HJ2.out.mem.k1.1; omega)))⟩, ?_⟩
          · obtain ⟨d, hd, e⟩ := hD'
            have hSw := HM.out.k4.1
            rcases List.mem_cons.1 hd with rfl | hd
            · have e2 : D = D' := by injection e
              subst e2
              have := (Array.getElem?_eq_some_iff.1 HD.out).1
              exact ⟨by omega, by omega, fun e => HMD.out (e ▸ HJ2.out.mg)⟩
            · have h3 := HJ2.out.low D' (.inr (.inr (.inr ⟨d, hd, e⟩)))
              have h4 := HJ2.out.mks.lt ⟨d, hd, e⟩
              exact ⟨(HDS.out D' ⟨d, hd, e⟩).1, by omega, fun e => h3.2 (e ▸ HJ2.out.mg)⟩
          · show 2402 - ({ target := .collected D, args := #[] } :: ds : List Deferred).length < 2402 - ds.length
            rw [List.length_cons, hdl]
            omega
      case hstop =>
        rintro D c pre f rest Wd hD hxs ⟨rfl, ad, cp, ws, hst, k2, k3, hrd, hcl, hbel, hmks⟩ hdef
        have HOUT := zH (HQ.out.out_of (rngL_srt _) HGA.out hxs hst)
        have HMKS := zH (Marks.cons HMK.out hmks (by omega) hdef)
        have HK2 := zH k2
        have HK3 := zH k3
        have HRD := zH hrd
        have HCL := zH hcl
        have HBE := zH hbel
        have HDEF := zH hdef
        clear k2 k3 hrd hcl hbel hmks hdef hxs hst
        gi_wp2_with fail
        refine leaves_marks ({ target := .collected D, args := #[] } :: ds) Wd HMKS.out (fun w9 hsame hsz hos htp hou => ?_)
        have hne : ∀ k, k < D → (∀ d ∈ ds, d.target ≠ .collected k) → w9.heap[k]? = Wd.heap[k]? := fun k hk hd => hsame k (fun d hm => by
          rcases List.mem_cons.1 hm with rfl | hm
          · intro e; injection e with e; omega
          · exact hd d hm)
        have hds : ∀ d ∈ ds, ∀ k, d.target = .collected k → S < k := fun d hm k e => (HDS.out k ⟨d, hm, e⟩).1
        have k2 : Blk w9 (w.heap.size + 1) #[.map (some bm)] := HK2.out.same (hne _ (by omega) (fun d hm e => by have := hds d hm _ e; omega))
        have k3 : Blk w9 (w.heap.size + 1 + 1) #[.slice (some ad) ws.length cp] := HK3.out.same (hne _ (by omega) (fun d hm e => by have := hds d hm _ e; omega))
        have hadb : w9.heap[ad.block]? = Wd.heap[ad.block]? := hsame _ (fun d hm e => by
          obtain ⟨D', e', hD'⟩ := HMKS.out.at1 d hm
          rw [e] at e'
          injection e' with e'
          obtain ⟨cur, ee, fr, hcl⟩ := HCL.out
          rw [e', hD'] at hcl
          cases hcl)
        have HR9 := zH (reads_same (w' := w9) HRD.out (by omega) (fun q hq => by cases hq; exact hadb))
        have HB9 : Hid (Below w.heap.size w w9) := zH ⟨hos.trans HBE.out.os, htp.trans HBE.out.tape, hou.trans HBE.out.output, by rw [hsz]; exact HBE.out.size, fun k hk => (hne k (by omega) (fun d hm e => by have := hds d hm _ e; omega)).trans (HBE.out.block k hk)⟩
        obtain ⟨-, k2x, -⟩ := k2
        obtain ⟨-, k3x, -⟩ := k3
        refine ⟨.tuple #[.map (some bm), .slice (some ad) ws.length cp], ?_, ?_⟩
        · simp [results, Try.results32, go_sem, k2x, k3x]
        · exact ⟨HB9.out, _, .inr ⟨ad, cp, ws, rfl, HR9.out, HOUT.out⟩⟩
    · have hin : i = s.fnd.length := by omega
      obtain rfl : n = 0 := by omega
      obtain ⟨-, k2, f2⟩ := HK.out.1
      obtain ⟨-, k3, f3⟩ := HK.out.2
      gi_wp2_with fail
      obtain ⟨We, hWe⟩ : ∃ u, (wr.setCell ⟨w.heap.size + 1, 0, none⟩ (.map (some bm))).setCell ⟨w.heap.size + 1 + 1, 0, none⟩ (.slice none 0 0) = u := ⟨_, rfl⟩
      rw [hWe]
      have hB8 : Below (w.heap.size + 1) wr We := by subst hWe; exact ((Below.refl _ _).setCell (p := ⟨w.heap.size + 1, 0, none⟩) (Nat.le_refl _) _).setCell (p := ⟨w.heap.size + 1 + 1, 0, none⟩) (by dsimp only; omega) _
      have hK2 : Blk We (w.heap.size + 1) #[.map (some bm)] := by
        subst hWe
        have := (HK.out.1.set 0 (.map (some bm))).other (p := ⟨w.heap.size + 1 + 1, 0, none⟩) (by dsimp only; omega) (.slice none 0 0)
        exact this
      have hK3 : Blk We (w.heap.size + 1 + 1) #[.slice none 0 0] := by
        subst hWe
        have := (HK.out.2.other (p := ⟨w.heap.size + 1, 0, none⟩) (by dsimp only; omega) (.map (some bm))).set 0 (.slice none 0 0)
        exact this
      have hsm : ∀ k, k ≠ w.heap.size + 1 → k ≠ w.heap.size + 1 + 1 → We.heap[k]? = wr.heap[k]? := by
        subst hWe
        exact fun k h1 h2 => (Below.heap_setCell _ _ _ _ (by dsimp only; omega)).trans (Below.heap_setCell _ _ _ _ (by dsimp only; omega))
      have hds : ∀ d ∈ ds, ∀ k, d.target = .collected k → S < k := fun d hm k e => (HDS.out k ⟨d, hm, e⟩).1
      have HMK8 : Hid (Marks ds We) := zH (HMK.out.same (fun D hD => by
        obtain ⟨d, hm, e⟩ := hD
        have := hds d hm D e
        exact hsm D (by omega) (by omega)))
      have HB8 : Hid (Below w.heap.size w We) := zH (HB.out.trans (hB8.mono (by omega)))
      clear hWe
      refine leaves_marks ds We HMK8.out (fun w9 hsame hsz hos htp hou => ?_)
      have hlo : ∀ k, k < S → w9.heap[k]? = We.heap[k]? := fun k hk => hsame k (fun d hm e => by have := hds d hm _ e; omega)
      have k2 := (hK2.same (hlo _ (by omega))).2.1
      have k3 := (hK3.same (hlo _ (by omega))).2.1
      have HB9 : Hid (Below w.heap.size w w9) := zH ⟨hos.trans HB8.out.os, htp.trans HB8.out.tape, hou.trans HB8.out.output, by rw [hsz]; exact HB8.out.size, fun k hk => (hlo k (by omega)).trans (HB8.out.block k hk)⟩
      have HH := zH (show HldQ (nxH x) (rngL (x.lo, x.hi)) [0, 0, 0, 0] from by
        have h1 := HQ.out
        rw [hin] at h1
        exact h1.holds)
      refine ⟨.tuple #[.map (some bm), .slice none 0 0], ?_, ?_⟩
      · simp [results, Try.results32, go_sem, k2, k3]
      · exact ⟨HB9.out, _, .inl ⟨rfl, HH.out⟩⟩
end
section
set_option maxRecDepth 100000
set_option maxHeartbeats 800000
open Go.RowKit

theorem CopyInts_lt (zs : List Int) (a : Option Addr) (cap : Nat) (w : World) (hfew : zs.length ≤ 100000) (hr : Reads w a zs.length (ints zs)) :
    Calls Try.prog 13 #[.slice a zs.length cap] w fun e w' => ∃ a' cap', e = .returned (.slice a' zs.length cap') ∧ Reads w' a' zs.length (ints zs) ∧ Below w.heap.size w w' ∧ ∀ p, a' = some p → w.heap.size ≤ p.block ∧ p.block < w'.heap.size := by
  have fin : ∀ (v : Value) (w' : World), w'.ownsRow w.heap.size 3 1 v zs.length (zs.map fun z => Value.int .i64 z) → ∃ a' cap', v = .slice a' zs.length cap' ∧ Reads w' a' zs.length (ints zs) ∧ ∀ p, a' = some p → w.heap.size ≤ p.block ∧ p.block < w'.heap.size := fun v w' h => by
    obtain ⟨a', c', e, -, hr, -⟩ := Reads.of_owns' h
    refine ⟨a', c', e, hr, fun p hp => ?_⟩
    subst e
    subst hp
    rcases h.2 with ⟨e0, -⟩ | ⟨g, cap2, cur, e0, hb, hg, -⟩
    · cases e0
    · cases e0
      exact ⟨hb, (Array.getElem?_eq_some_iff.1 hg).1⟩
  have HFIN := zH fin
  clear fin
  cases a with
  | none =>
    have h0 : zs.length = 0 := by
      rcases hr with h | ⟨b, off, e, -⟩
      · exact h
      · cases e
    have h1 : zs = [] := List.length_eq_zero_iff.1 h0
    subst h1
    go_enter Try.func13, Try.ntmps13
    go_wp2_with fail
    go_ret
    obtain ⟨a', c', e, h2, h3⟩ := HFIN.out _ _ (World.ownsRow_lit w #[] 0 (Nat.le_refl _) (by decide) rfl)
    have e' : Value.slice (some ⟨w.heap.size, 0, none⟩) 0 0 = Value.slice a' 0 c' := e
    exact ⟨a', c', by rw [← e']; rfl, h2, bAlloc (bSelf w) _, h3⟩
  | some ad =>
    have HR := zH hr
    clear hr
    have HN := zH (Reads.news' (HR.out.alloc (.cells #[] 3)))
    have HF := zH hfew
    go_enter Try.func13, Try.ntmps13
    go_wp2_with (at_builtin; refine wpList_app w.heap.size rtInt rfl (.tmp 3) (.tmp 4) rfl (.slice (some ⟨w.heap.size, 0, none⟩) 0 0) 0 [] rfl (World.ownsRow_lit w #[] 0 (Nat.le_refl _) (by decide) rfl) ad zs.length cap (zs.map fun z => Value.int .i64 z) rfl (by simp) HN.out (ones _) (by unfold maxLen; omega) (by omega) (by simp) ?_; intro v' w2 hown' hgrow _ hwhere; have HO := zH hown'; have HBB : Hid (Below w.heap.size w w2) := zH ((bAlloc (bSelf w) _).grown hgrow (by simp) (fun k e => by cases e; exact Nat.le_refl _)); clear hown' hgrow hwhere)
    go_ret
    have hrow := HO.out
    rw [Nat.zero_add, List.nil_append] at hrow
    obtain ⟨a', c', e, h2, h3⟩ := HFIN.out _ _ hrow
    exact ⟨a', c', by rw [← e]; rfl, h2, HBB.out, h3⟩

theorem ownsRow_slL {W : World} {n₀ : Nat} {e : TypeId} {s : Nat} {v : Value} {n : Nat} {xs : List Value} (h : W.ownsRow n₀ e s v n xs) : ∃ a c, v = .slice a n c := by
  rcases h.2 with ⟨e, h0⟩ | ⟨g, cap', cur, e, -⟩
  · cases e; rw [h0]; exact ⟨_, _, rfl⟩
  · cases e; exact ⟨_, _, rfl⟩
theorem CopyLists_any (L : List (List Int)) (da : Nat → Option Addr × Nat) (a : Option Addr) (cap : Nat) (w : World) (hfew : L.length ≤ 2500) (hrow : ∀ l ∈ L, l.length ≤ 6) (hL : LsR w a L da) :
    Calls Try.prog 11 #[.slice a L.length cap] w fun e w' => ∃ a' c' da', e = .returned (.slice a' L.length c') ∧ LsR w' a' L da' ∧ Below w.heap.size w w' := by
  have HL := zH hL
  have HROW := zH hrow
  obtain ⟨n, hn⟩ : ∃ q, L.length = q := ⟨_, rfl⟩
  have HN := zH hn
  rw [hn] at hfew ⊢
  clear hL hrow hn
  go_enter Try.func11, Try.ntmps11
  go_wp2_with fail
  go_loopw [3, 4] (fun s3 s4 wr => ∃ (i : Nat) (va : Option Addr) (vc : Nat) (M : List (List Int)) (db : Nat → Option Addr × Nat), s3 = .slice va i vc ∧ s4 = .int .i64 i ∧ i ≤ n ∧ Hid (M = L.take i) ∧ Hid (LsO wr w.heap.size (.slice va i vc) M db) ∧ Hid (Below w.heap.size w wr)) (fun _ s4 _ => n - (intOf s4).toNat)
  case atStart => exact ⟨0, none, 0, [], fun _ => (none, 0), rfl, rfl, Nat.zero_le _, zH rfl, zH (LsO.nil _ _), zH (bSelf _)⟩
  obtain ⟨i, va, vc, M, db, rfl, rfl, hi, HM, HLO, HR1⟩ := hrel
  have hM : M.length = i := by rw [HM.out, List.length_take]; have := HN.out; omega
  by_cases hlt : i < n
  · have hil : i < L.length := by have := HN.out; omega
    obtain ⟨b, off, rfl, hb0, hc⟩ := ((HL.out.to HR1.out).rd).at (k := i) hil
    have c0 : wr.cell? ⟨b, off + i, none⟩ = some (.slice (da i).1 (ll L i).length (da i).2) := hc i hil
    have HRI := zH ((HL.out.to HR1.out).dm i hil)
    have hl6 := HROW.out _ (ll_mem hil)
    obtain ⟨z, hz⟩ : ∃ z, ll L i = z := ⟨_, rfl⟩
    have HZ : Hid (M ++ [z] = L.take (i + 1)) := zH (by rw [HM.out, List.take_succ_eq_append_getElem hil, ← hz, ll_lt hil])
    rw [hz] at c0 HRI hl6
    have HCI := zH (fun W h => CopyInts_lt z (da i).1 (da i).2 W (by omega) h)
    have HOL := zH (show wr.ownsRow w.heap.size 26 1 (.slice va i vc) i (lcells M db) from by have := HLO.out.own; rw [hM] at this; exact this)
    have HADD := zH (fun (w3 W2 : World) (v' : Value) (a' : Option Addr) (c' : Nat) (o : Obj) (hb3 : Below wr.heap.size wr w3) (hr : Reads w3 a' z.length (ints z)) (hf : ∀ q, a' = some q → wr.heap.size ≤ q.block ∧ q.block < w3.heap.size) (hown : W2.ownsRow w.heap.size 26 1 v' (i + 1) (lcells M db ++ [.slice a' z.length c'])) (hg : (w3.alloc o).grownBy W2 (Value.slice va i vc).ownBlock) (hw : v'.ownBlock = (Value.slice va i vc).ownBlock ∨ v'.ownBlock = some (w3.alloc o).heap.size) => by
      have h1 : LsO W2 w.heap.size v' (M ++ [z]) (daA db M.length (a', c')) := by
        refine LsO.add (x := (a', c')) HLO.out (bAlloc hb3 o) (hr.alloc o) (fun q hq => ⟨(hf q hq).1, ?_⟩) (by rw [hM]; exact hown) hg hw
        have := (hf q hq).2
        simp only [World.size_alloc]
        omega
      exact (⟨h1, (HR1.out.trans ((bAlloc hb3 o).mono HR1.out.size)).grown hg (by have := hb3.size; have := HR1.out.size; simp only [World.size_alloc]; omega) (fun k e => (HLO.out.own.lt k e).1)⟩ : LsO W2 w.heap.size v' (M ++ [z]) (daA db M.length (a', c')) ∧ Below w.heap.size w W2))
    have HSW := zH HR1.out.size
    obtain ⟨zl, hzl⟩ : ∃ q, z.length = q := ⟨_, rfl⟩
    rw [hzl] at c0 HCI HRI
    have HZL := zH hzl
    clear hc hz hil hM hzl hl6
    go_wp2_with fail
    refine (HCI.out _ HRI.out).mono ?_
    rintro e w3 ⟨a', c', rfl, hr', hb, hf⟩
    have HB3 := zH hb
    have HF := zH hf
    have HR3 : Hid (Reads w3 a' z.length (ints z)) := zH (by rw [HZL.out]; exact hr')
    have HOB := zH (owns_to (owns_to HOL.out hb) (bAlloc (bSelf w3) (.cells #[.slice a' zl c'] 26)))
    have HNW := zH (Blk.new w3 #[.slice a' zl c'] 26).news
    clear hr' hb hf c0
    go_wp2_with (at_builtin; go_loud (refine wpList_app w.heap.size rtLst rfl (.tmp 11) (.tmp 17) rfl _ i _ rfl HOB.out ⟨w3.heap.size, 0, none⟩ 1 1 [.slice a' zl c'] rfl rfl (by simpa using HNW.out) (by intro u hu; simp only [List.mem_cons, List.not_mem_nil, or_false] at hu; subst hu; rfl) (by unfold maxLen; omega) (by omega) (by have := HB3.out.size; have := HSW.out; simp only [World.size_alloc]; omega) ?_; intro v' w4 hown' hgrow _ hwhere; have HA4 := zH (HADD.out w3 w4 v' a' c' (.cells #[.slice a' zl c'] 26) HB3.out HR3.out HF.out (by rw [HZL.out]; exact hown') hgrow hwhere); obtain ⟨xa3, xc3, rfl⟩ := ownsRow_slL hown'; clear hown' hgrow hwhere))
    go_roundw
    case rel => exact ⟨i + 1, xa3, xc3, M ++ [z], _, rfl, by go_num, by omega, HZ, zH HA4.out.1, zH HA4.out.2⟩
    case measure => simp [intOf]; omega
  · obtain rfl : n = i := by omega
    go_wp2_with fail
    go_ret
    obtain ⟨a2, c2, e2, -, hls⟩ := HLO.out.enc
    injection e2 with ea en ec
    subst ea ec
    have hLl : M = L := by rw [HM.out, List.take_of_length_le (by have := HN.out; omega)]
    rw [hLl] at hls
    exact ⟨va, vc, db, rfl, hls, HR1.out⟩

theorem Before_any (l m : List Int) (a b : Option Addr) (ca cb : Nat) (w : World) (hl : l.length ≤ 100000) (_hm : m.length ≤ 100000) (hra : Reads w a l.length (ints l)) (hrb : Reads w b m.length (ints m)) :
    Calls Try.prog 14 #[.slice a l.length ca, .slice b m.length cb] w fun e w' => e = .returned (.bool (decide (cmpL l m < 0))) ∧ Below w.heap.size w w' := by
  have HA := zH hra
  have HB := zH hrb
  have HN : Hid (∀ k, k < l.length → k < m.length → cmpL (l.drop k) (m.drop k) = if cmp2 (gi l k) (gi m k) ≠ 0 then cmp2 (gi l k) (gi m k) else cmpL (l.drop (k + 1)) (m.drop (k + 1))) := zH (fun k => cmpL_step)
  have HE1 : Hid (∀ k, k = l.length → k = m.length → cmpL (l.drop k) (m.drop k) = 0) := zH (fun k h1 h2 => by rw [List.drop_of_length_le (by omega), List.drop_of_length_le (by omega)]; rfl)
  have HE2 : Hid (∀ k, k = l.length → k < m.length → cmpL (l.drop k) (m.drop k) = -1) := zH (fun k h1 h2 => by rw [List.drop_of_length_le (by omega), gi_drop m k h2]; rfl)
  have HE3 : Hid (∀ k, k < l.length → k = m.length → cmpL (l.drop k) (m.drop k) = 1) := zH (fun k h1 h2 => by rw [List.drop_of_length_le (l := m) (by omega), gi_drop l k h1]; rfl)
  clear hra hrb
  have HC : Hid (cmpL l m = cmpL (l.drop 0) (m.drop 0)) := zH rfl
  obtain ⟨r, hr⟩ : ∃ r, cmpL l m = r := ⟨_, rfl⟩
  obtain ⟨n1, hn1⟩ : ∃ n, l.length = n := ⟨_, rfl⟩
  obtain ⟨n2, hn2⟩ : ∃ n, m.length = n := ⟨_, rfl⟩
  rw [hr] at HC ⊢
  rw [hn1] at HA HN HE1 HE2 HE3 hl ⊢
  rw [hn2] at HB HN HE1 HE2 HE3 ⊢
  clear hr hn1 hn2
  go_enter Try.func14, Try.ntmps14
  go_wp2_with fail
  go_loopw [5] (fun i wr => ∃ k : Nat, k ≤ n1 ∧ k ≤ n2 ∧ i = .int .i64 k ∧ Hid (r = cmpL (l.drop k) (m.drop k)) ∧ Hid (Below w.heap.size w wr)) (fun i _ => n1 - (intOf i).toNat)
  case atStart => exact ⟨0, Nat.zero_le _, Nat.zero_le _, rfl, HC, zH (bSelf w)⟩
  case round =>
    obtain ⟨k, hk1, hk2, rfl, hc, hB⟩ := hrel
    by_cases hlt1 : k < n1
    · by_cases hlt2 : k < n2
      · obtain ⟨ba, oa, rfl, hba, hca⟩ := (HA.out.to hB.out).at hlt1
        obtain ⟨bb, ob, rfl, hbb, hcb⟩ := (HB.out.to hB.out).at hlt2
        have h1 : Hid (wr.cell? ⟨ba, oa + k, none⟩ = some (.int .i64 (gi l k))) := zH (hca k hlt1)
        have h2 : Hid (wr.cell? ⟨bb, ob + k, none⟩ = some (.int .i64 (gi m k))) := zH (hcb k hlt2)
        have HS := zH (HN.out k hlt1 hlt2)
        clear hca hcb
        by_cases he : gi l k = gi m k
        · have HS2 : Hid (r = cmpL (l.drop (k + 1)) (m.drop (k + 1))) := zH (by
            rw [hc.out, HS.out, if_neg]
            unfold cmp2; rw [if_neg (by omega), if_neg (by omega)]; decide)
          have HE := zH he
          clear he
          go_wp2_with fail
          refine wp_region_quiet_all (fun w' => Below (World.heap wr).size (wr) w') (by kernel_rfl) (by kernel_rfl) (Below.refl _ _).drew ?_
          repeat (first | (refine wpQuiet_no (by rfl) ?_; (simp only [Act.put, zzT, zzO, zzS])) | (refine wpQuiet_yes (by rfl) ?_; apply Exists.intro; refine ⟨fun w1 hb1 => ?_, ?_⟩; (focus (((have k1 := (hb1.cell (p := ⟨ba, oa + k, none⟩) hba).trans h1.out; have k2 := (hb1.cell (p := ⟨bb, ob + k, none⟩) hbb).trans h2.out); have hb1 := zH hb1; go_simp); (try (go_bits; try go_simp)); (try (rw [if_pos (by omega)]; try go_simp)); (first | done | (with_reducible rfl) | exact rfl))); (simp only [Act.put, zzT, zzO, zzS])))
          refine wpQuiet_nil ?_
          intro w1 hb1
          have e : (gi l k != gi m k) = false := by simp [HE.out]
          have hb1 := zH hb1
          go_wp2_with fail
          go_roundw
          case rel => exact ⟨k + 1, by omega, by omega, by go_num, HS2, zH (bThen hB.out hb1.out)⟩
          case measure => simp [intOf]; omega
        · have HS2 : Hid (decide (r < 0) = decide (gi l k < gi m k)) := zH (by
            rw [hc.out, HS.out]
            unfold cmp2
            by_cases h : gi l k < gi m k
            · rw [if_pos h, if_pos (by decide)]; simp [h]
            · rw [if_neg h, if_pos (show gi m k < gi l k by omega), if_pos (by decide)]; simp [h])
          have HE := zH he
          clear he
          go_wp2_with fail
          refine wp_region_quiet_all (fun w' => Below (World.heap wr).size (wr) w') (by kernel_rfl) (by kernel_rfl) (Below.refl _ _).drew ?_
          repeat (first | (refine wpQuiet_no (by rfl) ?_; (simp only [Act.put, zzT, zzO, zzS])) | (refine wpQuiet_yes (by rfl) ?_; apply Exists.intro; refine ⟨fun w1 hb1 => ?_, ?_⟩; (focus (((have k1 := (hb1.cell (p := ⟨ba, oa + k, none⟩) hba).trans h1.out; have k2 := (hb1.cell (p := ⟨bb, ob + k, none⟩) hbb).trans h2.out); have hb1 := zH hb1; go_simp); (try (go_bits; try go_simp)); (try (rw [if_pos (by omega)]; try go_simp)); (first | done | (with_reducible rfl) | exact rfl))); (simp only [Act.put, zzT, zzO, zzS])))
          refine wpQuiet_nil ?_
          intro w1 hb1
          have e : (gi l k != gi m k) = true := by simp [HE.out]
          have hbq := zH hb1
          clear hb1
          go_wp2_with fail
          refine wp_region_quiet_all (fun w' => Below (World.heap w1).size (w1) w') (by kernel_rfl) (by kernel_rfl) (Below.refl _ _).drew ?_
          repeat (first | (refine wpQuiet_no (by rfl) ?_; (simp only [Act.put, zzT, zzO, zzS])) | (refine wpQuiet_yes (by rfl) ?_; apply Exists.intro; refine ⟨fun w1 hb1 => ?_, ?_⟩; (focus (((have k1 := ((bThen hbq.out hb1).cell (p := ⟨ba, oa + k, none⟩) hba).trans h1.out; have k2 := ((bThen hbq.out hb1).cell (p := ⟨bb, ob + k, none⟩) hbb).trans h2.out); have hb1 := zH hb1; go_simp); (try (go_bits; try go_simp)); (try (rw [if_pos (by omega)]; try go_simp)); (first | done | (with_reducible rfl) | exact rfl))); (simp only [Act.put, zzT, zzO, zzS])))
          refine wpQuiet_nil ?_
          intro w1 hb1
          have hb1 := zH hb1
          go_wp2_with fail
          go_ret
          exact ⟨ret_bool HS2.out.symm, bThen hB.out (bThen hbq.out hb1.out)⟩
      · obtain rfl : n2 = k := by omega
        go_wp2_with fail
        go_ret
        exact ⟨ret_bool (by rw [hc.out, HE3.out _ hlt1 rfl]; exact (decide_eq_false (by omega)).trans rfl), hB.out⟩
    · obtain rfl : n1 = k := by omega
      by_cases hlt2 : n1 < n2
      · go_wp2_with fail
        go_ret
        exact ⟨ret_bool (by rw [hc.out, HE2.out _ rfl hlt2, decide_eq_true (by omega)]), hB.out⟩
      · obtain rfl : n2 = n1 := by omega
        go_wp2_with fail
        go_ret
        exact ⟨ret_bool (by rw [hc.out, HE1.out _ rfl rfl, decide_eq_false (by omega)]), hB.out⟩
end
section
open Go.RowKit

theorem testE_of_ok {x : HT} (h : x.ok) : testE x = 0 := by
  have hr : rightB x = true := by
    unfold rightB
    exact decide_eq_true ⟨h.m1, h.m2, h.d1, h.d2, h.c1, h.c2, h.s1, h.s2, h.dl1, h.dl2, h.b1, h.b2, h.lo1, h.lo2, h.hi1, h.hi2⟩
  have := h.lo1; have := h.lo2; have := h.hi1; have := h.hi2; have := h.few
  refine testE_ok hr h.ord ?_
  have e : wrap64 (x.hi - x.lo) = x.hi - x.lo := IntWalk.wrap64_in _ ⟨by omega, by omega⟩
  rw [e]; omega
theorem runE_of {x : HT} {zs : List Int} (h : x.ok) (hf : forcesE x zs = 0) : runE x zs = 0 := by
  unfold runE; rw [testE_of_ok h, hf]; rfl

theorem Reads.take {W : World} {a : Option Addr} {l : List Int} (h : Reads W a l.length (ints l)) (n : Nat) : Reads W a (l.take n).length (ints (l.take n)) := by
  have hl : (l.take n).length ≤ l.length := by rw [List.length_take]; omega
  rcases h with h | ⟨b, off, ha, hlt, hc⟩
  · exact .inl (by omega)
  · refine .inr ⟨b, off, ha, hlt, fun i hi => ?_⟩
    rw [hc i (by omega)]
    unfold ints
    rw [gi_lt hi, gi_lt (by omega), List.getElem_take]
end
section
open Go.RowKit

theorem set9_other {W : World} {b b' : Nat} {cs : Array Value} (h : Blk W b cs) (hb : b' ≠ b) (v0 v1 v2 v3 v4 v5 v6 v7 v8 : Value) : Blk (set9 W b' v0 v1 v2 v3 v4 v5 v6 v7 v8) b cs :=
  ((((((((h.other (p := ⟨b', 0, none⟩) hb v0).other (p := ⟨b', 1, none⟩) hb v1).other (p := ⟨b', 2, none⟩) hb v2).other (p := ⟨b', 3, none⟩) hb v3).other (p := ⟨b', 4, none⟩) hb v4).other (p := ⟨b', 5, none⟩) hb v5).other (p := ⟨b', 6, none⟩) hb v6).other (p := ⟨b', 7, none⟩) hb v7).other (p := ⟨b', 8, none⟩) hb v8
theorem wrap_id (n : Int) (h : -9223372036854775808 ≤ n ∧ n ≤ 9223372036854775807) : wrap64 n = n := by unfold wrap64; omega
theorem wrap_mid {x : HT} (hx : x.ok) : wrap64 (x.lo + wrap64 ((wrap64 (x.hi - x.lo)).tdiv 2)) = x.lo + (x.hi - x.lo) / 2 := by
  have h1 := hx.lo1
  have h2 := hx.hi2
  have h3 := hx.ord
  rw [wrap_id (x.hi - x.lo) (by omega), Int.tdiv_eq_ediv_of_nonneg (by omega), wrap_id ((x.hi - x.lo) / 2) (by omega), wrap_id (x.lo + (x.hi - x.lo) / 2) (by omega)]
theorem srch_ok : SrchOK := fun x w hx => search_any x w hx
theorem reach_ok (x : HT) (W : World) (hT : testE x = 0) {m : Nat} (hm : x.dl + 2 = (m : Int)) :
    Calls Try.prog 7 #[.agg x.cells] W fun e w' => ∃ a c l da, e = .returned (.tuple #[.slice a l.length c, .int .i64 0]) ∧ LsR w' a (l.map fun z => z.take m) da ∧ AllR x l ∧ l.length ≤ 2401 ∧ Below W.heap.size W w' := by
  refine (ReachedBy_any x W).mono ?_
  rintro e w' ⟨hb, ⟨h, -⟩ | ⟨-, a, c, l, da, he, hl, hs, hst, hmem⟩⟩
  · exact absurd hT h
  · have e2 : (x.dl + 2).toNat = m := by omega
    rw [e2] at hl
    exact ⟨a, c, l, da, he, hl, ⟨hs, hmem⟩, few_sth (hs.imp (fun {a b} h e => by subst e; rw [cmpL_self] at h; omega)) hst, hb⟩
theorem hold_yes (x : HT) (W : World) (_hx : x.ok) (hT : testE x = 0) (hh : HldQ (nxH x) (rngL (x.lo, x.hi)) [0, 0, 0, 0]) :
    Calls Try.prog 8 #[.agg x.cells] W fun e w' => e = .returned (.tuple #[.bool true, .int .i64 0]) ∧ Below W.heap.size W w' := by
  refine (Holds_of srch_ok x W).mono ?_
  rintro e w' ⟨hb, ⟨h, -⟩ | ⟨-, b, he, hb2⟩⟩
  · exact absurd hT h
  · rw [hb2.2 hh] at he
    exact ⟨he, hb⟩
theorem hold_no (x : HT) (W : World) (_hx : x.ok) (hT : testE x = 0) (hh : ¬ HldQ (nxH x) (rngL (x.lo, x.hi)) [0, 0, 0, 0]) :
    Calls Try.prog 8 #[.agg x.cells] W fun e w' => e = .returned (.tuple #[.bool false, .int .i64 0]) ∧ Below W.heap.size W w' := by
  refine (Holds_of srch_ok x W).mono ?_
  rintro e w' ⟨hb, ⟨h, -⟩ | ⟨-, b, he, hb2⟩⟩
  · exact absurd hT h
  · have : b = false := by cases b with
      | false => rfl
      | true => exact absurd (hb2.1 rfl) hh
    rw [this] at he
    exact ⟨he, hb⟩
theorem brk_yes (x : HT) (W : World) (_hx : x.ok) (hT : testE x = 0) (hh : HldQ (nxH x) (rngL (x.lo, x.hi)) [0, 0, 0, 0]) :
    Calls Try.prog 9 #[.agg x.cells] W fun e w' => e = .returned (.tuple #[.slice none 0 0, .int .i64 12]) ∧ Below W.heap.size W w' := by
  refine (BrokenBy_of srch_ok x W).mono ?_
  rintro e w' ⟨hb, ⟨h, -⟩ | ⟨-, he, -⟩ | ⟨-, ad, c, ws, -, -, ho⟩⟩
  · exact absurd hT h
  · exact ⟨he, hb⟩
  · exact absurd hh ho.not
theorem brk_no (x : HT) (W : World) (_hx : x.ok) (hT : testE x = 0) (hh : ¬ HldQ (nxH x) (rngL (x.lo, x.hi)) [0, 0, 0, 0]) :
    Calls Try.prog 9 #[.agg x.cells] W fun e w' => ∃ ad c ws, e = .returned (.tuple #[.slice (some ad) ws.length c, .int .i64 0]) ∧ Reads w' (some ad) ws.length (ints ws) ∧ OutW (nxH x) (rngL (x.lo, x.hi)) [0, 0, 0, 0] ws ∧ Below W.heap.size W w' := by
  refine (BrokenBy_of srch_ok x W).mono ?_
  rintro e w' ⟨hb, ⟨h, -⟩ | ⟨-, -, h⟩ | ⟨-, ad, c, ws, he, hr, ho⟩⟩
  · exact absurd hT h
  · exact absurd h hh
  · exact ⟨ad, c, ws, he, hr, ho, hb⟩
theorem rows_ok {x : HT} {l : List (List Int)} (hx : x.ok) (h : AllR x l) {m : Nat} (hm2 : m = 2 ∨ m = 3 ∨ m = 4) : ∀ z ∈ l.map (fun z => z.take m), z.length ≤ 6 ∧ BdH (p4 z) := fun z hz => by
  obtain ⟨y, hy, rfl⟩ := List.mem_map.1 hz
  have hi := (h.inx hx hy)
  refine ⟨by rw [hi.tl hm2]; omega, ?_⟩
  have hs := (hi.sth hx).bd
  have hg : ∀ i, i < 4 → -3 ≤ gi (p4 (y.take m)) i ∧ gi (p4 (y.take m)) i ≤ 3 := fun i hi4 => by
    have e : gi (p4 (y.take m)) i = gi (y.take m) i := by
      match i, hi4 with
      | 0, _ => rfl
      | 1, _ => rfl
      | 2, _ => rfl
      | 3, _ => rfl
    rw [e]
    by_cases h1 : i < m
    · rw [gi_tk h1]; exact hs i hi4
    · have : gi (y.take m) i = 0 := by unfold gi; rw [List.getD_eq_getElem?_getD, List.getElem?_eq_none (by rw [List.length_take]; omega)]; rfl
      rw [this]; exact ⟨by decide, by decide⟩
  exact ⟨rfl, fun i hi => by have := (hg i hi).1; omega, fun i hi => by have := (hg i hi).2; omega⟩
theorem copy_ls (l : List (List Int)) (m : Nat) (da : Nat → Option Addr × Nat) (aL : Option Addr) (cL nl : Nat) (W : World) {x : HT} (hnl : l.length = nl) (hlf : nl ≤ 2500) (h : AllR x l) (hx : x.ok) (hm2 : m = 2 ∨ m = 3 ∨ m = 4) (hL : LsR W aL (l.map fun z => z.take m) da) :
    Calls Try.prog 11 #[.slice aL nl cL] W fun e w' => ∃ a' c' da', e = .returned (.slice a' nl c') ∧ LsR w' a' (l.map fun z => z.take m) da' ∧ Below W.heap.size W w' := by
  have h1 := CopyLists_any (l.map fun z => z.take m) da aL cL W (by rw [List.length_map]; omega) (fun z hz => (rows_ok hx h hm2 z hz).1) hL
  rw [List.length_map, hnl] at h1
  exact h1
theorem closed_yes (x : HT) (l : List (List Int)) (da : Nat → Option Addr × Nat) (aL : Option Addr) (cL : Nat) (W : World) (hx : x.ok) (hT : testE x = 0) {m : Nat} (hm : x.dl + 2 = (m : Int)) (hm2 : m = 2 ∨ m = 3 ∨ m = 4) (h : AllR x l) (hh : HldQ (nxH x) (rngL (x.lo, x.hi)) [0, 0, 0, 0]) (hL : LsR W aL (l.map fun z => z.take m) da) :
    Calls Try.prog 10 #[.agg x.cells, .slice aL l.length cL] W fun e w' => (∃ c1, e = .returned (.tuple #[.int .i64 c1, .int .i64 0])) ∧ Below W.heap.size W w' := by
  have hlf : l.length ≤ 2401 := few_sth (h.srt.imp (fun {a b} h e => by subst e; rw [cmpL_self] at h; omega)) (fun t ht => (h.inx hx ht).sth hx)
  have h1 := CheckClosed_any x (l.map fun z => z.take m) da aL cL W (by rw [List.length_map]; omega) (rows_ok hx h hm2) hL
  rw [List.length_map] at h1
  refine h1.mono ?_
  rintro e w' ⟨he, hb⟩
  have hv : clsV x (testE x) (l.map fun z => z.take m) = (0, 0) := by unfold clsV; rw [if_neg (fun h => h hT)]; exact cls_held hx h hm hm2 hh
  rw [hv] at he
  exact ⟨⟨0, he⟩, hb⟩
theorem closed_no (x : HT) (l : List (List Int)) (da : Nat → Option Addr × Nat) (aL : Option Addr) (cL : Nat) (W : World) (hx : x.ok) (hT : testE x = 0) {m : Nat} (hm : x.dl + 2 = (m : Int)) (hm2 : m = 2 ∨ m = 3 ∨ m = 4) (h : AllR x l) {ws : List Int} (ho : OutW (nxH x) (rngL (x.lo, x.hi)) [0, 0, 0, 0] ws) (hL : LsR W aL (l.map fun z => z.take m) da) :
    Calls Try.prog 10 #[.agg x.cells, .slice aL l.length cL] W fun e w' => (∃ c1, e = .returned (.tuple #[.int .i64 c1, .int .i64 22])) ∧ Below W.heap.size W w' := by
  have hlf : l.length ≤ 2401 := few_sth (h.srt.imp (fun {a b} h e => by subst e; rw [cmpL_self] at h; omega)) (fun t ht => (h.inx hx ht).sth hx)
  have h1 := CheckClosed_any x (l.map fun z => z.take m) da aL cL W (by rw [List.length_map]; omega) (rows_ok hx h hm2) hL
  rw [List.length_map] at h1
  refine h1.mono ?_
  rintro e w' ⟨he, hb⟩
  have hv : (clsV x (testE x) (l.map fun z => z.take m)).2 = 22 := by unfold clsV; rw [if_neg (fun h => h hT)]; exact cls_brk hx h hm hm2 ho
  rw [hv] at he
  exact ⟨⟨_, he⟩, hb⟩
theorem held_next {x : HT} (hh : HldQ (nxH x) (rngL (x.lo, x.hi)) [0, 0, 0, 0]) {t : List Int} {f : Int} {es : List Int} (h1 : ∀ f ∈ es, f ∈ rngL (x.lo, x.hi)) (h2 : goW (nxH x) [0, 0, 0, 0] es = some t) (hf : f ∈ rngL (x.lo, x.hi)) : ∃ u, nxH x t f = some u := by
  cases e : nxH x t f with
  | some u => exact ⟨u, rfl⟩
  | none =>
    refine (hh (es ++ [f]) (fun g hg => ?_) (by rw [goW_snoc, h2]; exact e)).elim
    rcases List.mem_append.1 hg with hg | hg
    · exact h1 g hg
    · have : g = f := by simpa using hg
      subst this; exact hf
theorem make_zero {m : Nat} (hm2 : m = 2 ∨ m = 3 ∨ m = 4) : ∃ zc : Array Value, (∀ W : World, Sem.run Try.prog (Instr.makeSlice 26 (.int .i64 (m : Int)) (.int .i64 (m : Int))) W = .ok (.slice (some ⟨W.heap.size, 0, none⟩) m m) (W.alloc (.cells zc 3))) ∧ ∀ W : World, Reads (W.alloc (.cells zc 3)) (some ⟨W.heap.size, 0, none⟩) m (ints (([0, 0, 0, 0] : List Int).take m)) := by
  rcases hm2 with rfl | rfl | rfl
  · refine ⟨#[.int .i64 0, .int .i64 0], by intro W; kernel_rfl, fun W => Reads.fresh W _ _ _ _ _ rfl (fun i hi => ?_)⟩
    match i, hi with
    | 0, _ => rfl
    | 1, _ => rfl
  · refine ⟨#[.int .i64 0, .int .i64 0, .int .i64 0], by intro W; kernel_rfl, fun W => Reads.fresh W _ _ _ _ _ rfl (fun i hi => ?_)⟩
    match i, hi with
    | 0, _ => rfl
    | 1, _ => rfl
    | 2, _ => rfl
  · refine ⟨#[.int .i64 0, .int .i64 0, .int .i64 0, .int .i64 0], by intro W; kernel_rfl, fun W => Reads.fresh W _ _ _ _ _ rfl (fun i hi => ?_)⟩
    match i, hi with
    | 0, _ => rfl
    | 1, _ => rfl
    | 2, _ => rfl
    | 3, _ => rfl
theorem next_yes (x : HT) (t u : List Int) (f : Int) (m : Nat) (a : Option Addr) (c : Nat) (W : World) (hx : x.ok) (hT : testE x = 0) (h : InX x t) (hm : x.dl + 2 = (m : Int)) (hm2 : m = 2 ∨ m = 3 ∨ m = 4) (hf : x.lo ≤ f ∧ f ≤ x.hi) (ht : nxH x t f = some u) (hr : Reads W a m (ints (t.take m))) :
    Calls Try.prog 12 #[.agg x.cells, .slice a m c, .int .i64 f] W fun e w' => ∃ a' c', e = .returned (.tuple #[.slice a' m c', .int .i64 0]) ∧ Reads w' a' m (ints (u.take m)) ∧ Below W.heap.size W w' := by
  have hl := h.tl hm2
  have hu : InX x u := by obtain ⟨h1, h2⟩ := nxH_some ht; rw [h2]; exact h.next hx h1
  have h1 := NextOf_any x (t.take m) a c f W (by rw [hl]; unfold maxLen; omega) (by rw [hl]; exact hr)
  obtain ⟨e1, e2⟩ := nof_in hx hT h hm hm2 hf ht
  rw [e1, e2, hl] at h1
  refine h1.mono ?_
  rintro e w' ⟨a', c', he, -, hr', hb⟩
  rw [hu.tl hm2] at he hr'
  exact ⟨a', c', he, hr', hb⟩
theorem next_no (x : HT) (t : List Int) (f : Int) (m : Nat) (a : Option Addr) (c : Nat) (W : World) (hx : x.ok) (hT : testE x = 0) (h : InX x t) (hm : x.dl + 2 = (m : Int)) (hm2 : m = 2 ∨ m = 3 ∨ m = 4) (hf : x.lo ≤ f ∧ f ≤ x.hi) (ht : nxH x t f = none) (hr : Reads W a m (ints (t.take m))) :
    Calls Try.prog 12 #[.agg x.cells, .slice a m c, .int .i64 f] W fun e w' => ∃ a' c', e = .returned (.tuple #[.slice a' 0 c', .int .i64 22]) ∧ Below W.heap.size W w' := by
  have hl := h.tl hm2
  have h1 := NextOf_any x (t.take m) a c f W (by rw [hl]; unfold maxLen; omega) (by rw [hl]; exact hr)
  obtain ⟨e1, e2⟩ := nof_out hx hT h hm hm2 hf ht
  rw [e1, e2, hl] at h1
  refine h1.mono ?_
  rintro e w' ⟨a', c', he, -, -, hb⟩
  exact ⟨a', c', he, hb⟩
theorem stat_ok (x : HT) (t : List Int) (m : Nat) (a : Option Addr) (c : Nat) (W : World) (hx : x.ok) (h : InX x t) (hm : x.dl + 2 = (m : Int)) (hm2 : m = 2 ∨ m = 3 ∨ m = 4) (hr : Reads W a m (ints (t.take m))) :
    Calls Try.prog 15 #[.agg x.cells, .slice a m c] W fun e w' => e = .returned (.int .i64 0) ∧ Below W.heap.size W w' := by
  have hl := h.tl hm2
  have h1 := StateErr_any x (t.take m) a c W hx (by rw [hl]; omega) (by rw [hl]; exact hr)
  rw [hl, h.stE0 hm hm2] at h1
  exact h1
theorem copy_m (t : List Int) (m : Nat) (a : Option Addr) (c : Nat) (W : World) (hl : t.length = m) (hm : m ≤ 100000) (hr : Reads W a m (ints t)) :
    Calls Try.prog 13 #[.slice a m c] W fun e w' => ∃ a' c', e = .returned (.slice a' m c') ∧ Reads w' a' m (ints t) ∧ Below W.heap.size W w' := by
  subst hl
  refine (CopyInts_any t a c W hm hr).mono ?_
  rintro e w' ⟨a', c', he, -, hr', hb, -⟩
  exact ⟨a', c', he, hr', hb⟩
theorem ints_m (t u : List Int) (m : Nat) (a b : Option Addr) (c d : Nat) (W : World) (hl : t.length = m) (hl2 : u.length = m) (hm : m ≤ 100000) (hr : Reads W a m (ints t)) (hr2 : Reads W b m (ints u)) :
    Calls Try.prog 16 #[.slice a m c, .slice b m d] W fun e w' => e = .returned (.bool (decide (t = u))) ∧ Below W.heap.size W w' := by
  have h1 := Ints_any t u a b c d W (by unfold maxLen; omega) (by rw [hl]; exact hr) (by rw [hl2]; exact hr2)
  rw [hl, hl2] at h1
  exact h1
theorem goW_take {x : HT} {fs : List Int} {i : Nat} {t u : List Int} (hi : i < fs.length) (h : goW (nxH x) [0, 0, 0, 0] (fs.take i) = some t) (hu : nxH x t (gi fs i) = some u) : goW (nxH x) [0, 0, 0, 0] (fs.take (i + 1)) = some u := by
  rw [gi_take fs i hi, goW_snoc, h]
  exact hu
/-- Where a reached state stands among all. -/
theorem at_of {x : HT} {l : List (List Int)} (h : AllR x l) {es : List Int} {u : List Int} (h1 : ∀ f ∈ es, f ∈ rngL (x.lo, x.hi)) (h2 : goW (nxH x) [0, 0, 0, 0] es = some u) (m : Nat) : ∃ j, j < l.length ∧ ll (l.map fun z => z.take m) j = u.take m := by
  obtain ⟨j, hj, e⟩ := List.mem_iff_getElem.1 ((h.mem u).2 ⟨es, h1, h2⟩)
  exact ⟨j, hj, by rw [ll_map hj, e]⟩
theorem ll_len {x : HT} {l : List (List Int)} (hx : x.ok) (h : AllR x l) {m : Nat} (hm2 : m = 2 ∨ m = 3 ∨ m = 4) {k : Nat} (hk : k < l.length) : (ll (l.map fun z => z.take m) k).length = m := by
  rw [ll_map hk]; exact (h.inx hx (List.getElem_mem hk)).tl hm2

theorem force_out {x : HT} {ws : List Int} (ho : OutW (nxH x) (rngL (x.lo, x.hi)) [0, 0, 0, 0] ws) (hl : ws.length ≤ 60) : forcesE x ws = 0 := by
  have h1 : eachR (forceE x ws) 0 ws.length = (0, 0) := eachR_all _ _ (fun j _ hj => by
    have hj' : j < ws.length := by omega
    have h2 := rngL_mem.1 (ho.all _ (List.getElem_mem hj'))
    unfold forceE
    rw [gi_lt hj', decide_eq_true h2.1, decide_eq_true h2.2]
    rfl)
  unfold forcesE
  rw [h1, decide_eq_true (by omega)]
  rfl
theorem run_of_out (x : HT) (ws : List Int) (nb : Nat) (a : Option Addr) (c : Nat) (W : World) (hx : x.ok) (ho : OutW (nxH x) (rngL (x.lo, x.hi)) [0, 0, 0, 0] ws) (hnb : ws.length = nb) (hl : nb ≤ 60) (hr : Reads W a nb (ints ws)) :
    Calls Try.prog 17 #[.agg x.cells, .slice a nb c] W fun e w' => ∃ a' c' r, e = .returned (.tuple #[.slice a' (nb + 1) c', .int .i64 0]) ∧ Reads w' a' (nb + 1) (ints r) ∧ RunB x nb r ∧ Below W.heap.size W w' := by
  subst hnb
  have hrb := run_out hx ho (rng_bd hx)
  refine (RunOf_ok x ws a c W (by unfold maxLen; omega) hr (runE_of hx (force_out ho hl))).mono ?_
  rintro e w' ⟨a', c', he, hr', hb⟩
  rw [hrb.len] at he hr'
  exact ⟨a', c', _, he, hr', hrb, hb⟩
theorem gd_held (x : HT) (W : World) (hT : testE x = 0) :
    Calls Try.prog 19 #[.agg x.cells] W fun e w' => ∃ k : Nat, k ≤ 3 ∧ e = .returned (.tuple #[.int .i64 ((k - 1 : Nat) : Int), .int .i64 (unl (decide (0 < k)) 12)]) ∧ (∀ j, j < k → HldD x j) ∧ Below W.heap.size W w' := by
  refine (GreatestDelay_of srch_ok x W).mono ?_
  rintro e w' ⟨hb, ⟨h, -⟩ | ⟨-, k, hk, he, hd, -⟩⟩
  · exact absurd hT h
  · exact ⟨k, hk, he, hd, hb⟩
/-- A test with another delay. -/
def latX (x : HT) (k : Nat) : HT := { x with dl := (k : Int) }
theorem late_held (x : HT) (k : Nat) (W : World) (hx : x.ok) (hk : k ≤ 2) (hd : HldD x k) :
    Calls Try.prog 8 #[.agg (latX x k).cells] W fun e w' => e = .returned (.tuple #[.bool true, .int .i64 0]) ∧ Below W.heap.size W w' :=
  hold_yes (latX x k) W (ok_dl hx hk) (testE_of_ok (ok_dl hx hk)) hd
theorem few_held (x : HT) (W : World) (hx : x.ok) (hh : HldQ (nxH x) (rngL (x.lo, x.hi)) [0, 0, 0, 0]) :
    Calls Try.prog 8 #[.agg (fewX x).cells] W fun e w' => e = .returned (.tuple #[.bool true, .int .i64 0]) ∧ Below W.heap.size W w' :=
  hold_yes (fewX x) W (fewX_ok hx) (testE_of_ok (fewX_ok hx)) (fewX_held hx hh)
theorem wid_held (x : HT) (W : World) (hx : x.ok) (hh : HldQ (nxH x) (rngL (x.lo, x.hi)) [0, 0, 0, 0]) :
    Calls Try.prog 8 #[.agg (widX x).cells] W fun e w' => e = .returned (.tuple #[.bool true, .int .i64 0]) ∧ Below W.heap.size W w' :=
  hold_yes (widX x) W (widX_ok hx) (testE_of_ok (widX_ok hx)) (widX_held hx hh)
end
section
open Go.RowKit

set_option maxHeartbeats 12800000 in
set_option maxRecDepth 100000 in
theorem HybridHeld_held (x : HT) (fs : List Int) (a : Option Addr) (cap : Nat) (w : World) (hx : x.ok) (hT : testE x = 0) (hF : forcesE x fs = 0) (hr : Reads w a fs.length (ints fs)) (hh : HldQ (nxH x) (rngL (x.lo, x.hi)) [0, 0, 0, 0]) :
    Calls Try.prog 3 #[.agg x.cells, .slice a fs.length cap] w fun e w' => e = .returned (.bool true) ∧ Below w.heap.size w w' := by
  obtain ⟨hfew, hfz⟩ := forcesE_zero hF
  have HALL : Hid (∀ f ∈ fs, f ∈ rngL (x.lo, x.hi)) := zH (fun f hf => by
    obtain ⟨k, hk, e⟩ := List.mem_iff_getElem.1 hf
    have := hfz k hk
    rw [gi_lt hk, e] at this
    exact rngL_mem.2 this)
  have HFZ := zH hfz
  have HR0 := zH hr
  obtain ⟨m, hm⟩ : ∃ m : Nat, x.dl + 2 = (m : Int) := ⟨(x.dl + 2).toNat, by have := hx.dl1; omega⟩
  have hm2 : m = 2 ∨ m = 3 ∨ m = 4 := by have := hx.dl1; have := hx.dl2; omega
  have HM := zH hm
  have HM2 := zH hm2
  have HTE := zH (fun (W : World) => TestErr_any x W)
  rw [hT] at HTE
  have HFE := zH (fun (W : World) h => ForcesErr_any x fs a cap W (by unfold maxLen; omega) h)
  rw [hF] at HFE
  have HRB := zH (fun (W : World) => reach_ok x W hT hm)
  have HX := zH hx
  have HTT := zH hT
  have HHH := zH hh
  have hb1 := hx.b1
  have hb2 := hx.b2
  have HCP := zH (fun (zs : List Int) (a : Option Addr) (cap : Nat) (W : World) (h : zs.length ≤ 100000) hr => CopyInts_any zs a cap W h hr)
  obtain ⟨zc, hzc⟩ := make_zero hm2
  have HZC := zH hzc.2
  have hmk := hzc.1
  have HHO := zH (fun (W : World) => hold_yes x W hx hT hh)
  have HBK := zH (fun (W : World) => brk_yes x W hx hT hh)
  have HNX := zH (fun (t : List Int) (f : Int) (es : List Int) (h1 : ∀ f ∈ es, f ∈ rngL (x.lo, x.hi)) (h2 : goW (nxH x) [0, 0, 0, 0] es = some t) (hf : f ∈ rngL (x.lo, x.hi)) => held_next hh h1 h2 hf)
  have HCC := zH (fun (l : List (List Int)) (da : Nat → Option Addr × Nat) (aL : Option Addr) (cL : Nat) (W : World) (h : AllR x l) (hL : LsR W aL (l.map fun z => z.take m) da) => closed_yes x l da aL cL W hx hT hm hm2 h hh hL)
  clear hfz hr hT hF hh hzc
  obtain ⟨n, hn⟩ : ∃ q, fs.length = q := ⟨_, rfl⟩
  have HN := zH hn
  rw [hn] at hfew HR0 HFE HFZ ⊢
  clear hn
  go_enter Try.func3, Try.ntmps3
  go_wp2_with fail
  refine (awake_any _).mono ?_
  rintro e w1 ⟨rfl, hb⟩
  have K0 := zH ((Blk.new w x.cells 25).to hb)
  have HB := zH (bThen (bAlloc (bSelf w) (.cells x.cells 25)) hb)
  clear hb
  have hf1 : decide ((60 : Int) < (n : Int)) = false := decide_eq_false (by omega)
  obtain ⟨-, k0, -⟩ := K0.out
  go_wp2_with fail
  refine (HTE.out _).mono ?_
  rintro e w2 ⟨rfl, hb⟩
  replace K0 := zH (K0.out.to hb)
  replace HB := zH (bThen HB.out hb)
  clear hb k0
  obtain ⟨-, k0, -⟩ := K0.out
  go_wp2_with fail
  refine (HFE.out _ (HR0.out.to HB.out)).mono ?_
  rintro e w3 ⟨rfl, hb⟩
  replace K0 := zH (K0.out.to hb)
  replace HB := zH (bThen HB.out hb)
  clear hb k0 hf1
  obtain ⟨-, k0, -⟩ := K0.out
  go_wp2_with fail
  refine (HRB.out _).mono ?_
  rintro e w4 ⟨aS, cS, l, dS, rfl, hls, har, hlf, hb⟩
  replace K0 := zH (K0.out.to hb)
  replace HB := zH (bThen HB.out hb)
  have HLS := zH hls
  have HAR := zH har
  obtain ⟨nl, hnl⟩ : ∃ q, l.length = q := ⟨_, rfl⟩
  have HNL := zH hnl
  rw [hnl] at hlf ⊢
  clear hb k0 hls har hnl
  obtain ⟨-, k0, -⟩ := K0.out
  go_wp2_with fail
  refine (HHO.out _).mono ?_
  rintro e w5 ⟨rfl, hb⟩
  replace K0 := zH (K0.out.to hb)
  replace HB := zH (bThen HB.out hb)
  replace HLS := zH (HLS.out.to hb)
  clear hb k0
  obtain ⟨-, k0, -⟩ := K0.out
  go_wp2_with fail
  refine (HBK.out _).mono ?_
  rintro e w6 ⟨rfl, hb⟩
  replace K0 := zH (K0.out.to hb)
  replace HB := zH (bThen HB.out hb)
  replace HLS := zH (HLS.out.to hb)
  clear hb k0
  have hK0 := K0.out.1
  go_upto_region 8 with (fail)
  refine wp_region_mix [2, 3] (by kernel_rfl) (by kernel_rfl) (fun _ _ _ _ _ h => h) (fun w7d hwd => ?_)
  have T := zH hwd
  clear hwd
  repeat (first | (refine WM_no (by rfl) (by rfl) ?_; (simp only [Act.put, zzT, zzO, zzS])) | (refine WM_yes (by rfl) (by rfl) ?_; apply Exists.intro; refine ⟨fun w1 hb1 => ?_, ?_⟩; (focus (((obtain ⟨-, k0, -⟩ := (K0.out.to T.out).below hb1 hK0); have hb1 := zH hb1; go_simp); (try (go_bits; try go_simp)); (try (rw [if_pos (by omega)]; try go_simp)); (first | done | (with_reducible rfl) | exact rfl))); (simp only [Act.put, zzT, zzO, zzS])))
  refine WM_x (by rfl) ?_
  go_wp2_with fail
  refine (copy_ls l m dS aS cS nl _ HNL.out (by omega) HAR.out HX.out HM2.out (HLS.out.to T.out)).mono ?_
  rintro e w7e ⟨a7, c7, d7, rfl, hl7, hb⟩
  have HL7 := zH hl7
  have hbd := zH (hb.mono T.out.size)
  replace T := zH (bThen T.out hb)
  clear hb hl7
  go_wp2_with fail
  refine ⟨hbd.out, ?_⟩
  clear hbd
  repeat (first | (refine WM_no (by rfl) (by rfl) ?_; (simp only [Act.put, zzT, zzO, zzS])) | (refine WM_yes (by rfl) (by rfl) ?_; apply Exists.intro; refine ⟨fun w1 hb1 => ?_, ?_⟩; (focus (((obtain ⟨-, k0, -⟩ := (K0.out.to T.out).below hb1 hK0); have hb1 := zH hb1; go_simp); (try (go_bits; try go_simp)); (try (rw [if_pos (by omega)]; try go_simp)); (first | done | (with_reducible rfl) | exact rfl))); (simp only [Act.put, zzT, zzO, zzS])))
  refine WM_x (by rfl) ?_
  go_wp2_with fail
  have hcc := HCC.out l d7 a7 c7 _ HAR.out HL7.out
  rw [HNL.out] at hcc
  refine hcc.mono ?_
  rintro e w7f ⟨⟨cc, rfl⟩, hb⟩
  have hbd := zH (hb.mono T.out.size)
  replace T := zH (bThen T.out hb)
  clear hb HL7 hcc
  go_wp2_with fail
  refine ⟨hbd.out, ?_⟩
  clear hbd
  repeat (first | (refine WM_no (by rfl) (by rfl) ?_; (simp only [Act.put, zzT, zzO, zzS])) | (refine WM_yes (by rfl) (by rfl) ?_; apply Exists.intro; refine ⟨fun w1 hb1 => ?_, ?_⟩; (focus ((have hb1 := zH hb1; go_simp); (try (go_bits; try go_simp)); (try (rw [if_pos (by omega)]; try go_simp)); (first | done | (with_reducible rfl) | exact rfl))); (simp only [Act.put, zzT, zzO, zzS])))
  refine WM_nil ?_
  have hb := T.out
  replace K0 := zH (K0.out.to hb)
  replace HB := zH (bThen HB.out hb)
  replace HLS := zH (HLS.out.to hb)
  clear T hb hK0
  obtain ⟨-, k0, -⟩ := K0.out
  have hm' := HM.out
  go_wp2_with fail
  obtain ⟨w8, hw8⟩ : ∃ u, w7f.alloc (.cells zc 3) = u := ⟨_, rfl⟩
  rw [hw8]
  have hb : Below w7f.heap.size w7f w8 := by subst hw8; exact bAlloc (bSelf _) _
  have HR8 : Hid (Reads w8 (some ⟨w7f.heap.size, 0, none⟩) m (ints (([0, 0, 0, 0] : List Int).take m))) := by subst hw8; exact zH (HZC.out _)
  replace K0 := zH (K0.out.to hb)
  replace HB := zH (bThen HB.out hb)
  replace HLS := zH (HLS.out.to hb)
  clear hb hw8 k0 hm' HZC hmk
  obtain ⟨BZ, hBZ⟩ : ∃ q, w7f.heap.size = q := ⟨_, rfl⟩
  rw [hBZ] at HR8 ⊢
  clear hBZ
  go_loopw [13, 14] (fun s13 s14 wr => ∃ (i : Nat) (t : List Int) (a13 : Option Addr) (c13 : Nat), s13 = .slice a13 m c13 ∧ s14 = .int .i64 i ∧ i ≤ n ∧ Hid (goW (nxH x) [0, 0, 0, 0] (fs.take i) = some t) ∧ Hid (Reads wr a13 m (ints (t.take m))) ∧ Hid (Below w8.heap.size w8 wr)) (fun _ s14 _ => n - (intOf s14).toNat)
  case atStart => exact ⟨0, [0, 0, 0, 0], _, _, rfl, rfl, Nat.zero_le _, zH rfl, HR8, zH (bSelf _)⟩
  obtain ⟨i, t, a13, c13, rfl, rfl, hi, HG, HRT, HBW⟩ := hrel
  clear HR8
  obtain ⟨wo, hwo⟩ : ∃ wo, wo = wr := ⟨_, rfl⟩
  subst hwo
  have HBO := HBW
  replace HB := zH (bThen HB.out HBW.out)
  replace K0 := zH (K0.out.to HBW.out)
  replace HLS := zH (HLS.out.to HBW.out)
  by_cases hlt : i < n
  · have hif : i < fs.length := by rw [HN.out]; exact hlt
    have hff := HFZ.out i hlt
    have hes : ∀ f ∈ fs.take i, f ∈ rngL (x.lo, x.hi) := fun f hf => HALL.out f (List.mem_of_mem_take hf)
    have hit := goW_in HX.out _ _ t (InX.zero HX.out) HG.out
    have htl := hit.tl HM2.out
    obtain ⟨bf, of, rfl, hbf, hcf⟩ := HR0.out.at hlt
    have HCF : Hid (w.cell? ⟨bf, of + i, none⟩ = some (.int .i64 (gi fs i))) := zH (hcf i hlt)
    have HCM := zH (fun W hr => copy_m (t.take m) m a13 c13 W htl (by omega) hr)
    have hK0 := K0.out.1
    have hbf2 : bf < wo.heap.size := by have := HB.out.size; omega
    have hic : (i : Int) ≤ 60 := by omega
    clear hcf
    obtain ⟨u, hu⟩ := HNX.out t (gi fs i) _ hes HG.out (rngL_mem.2 hff)
    have HNF := zH (fun (a : Option Addr) (c : Nat) (W : World) hr => next_yes x t u (gi fs i) m a c W HX.out HTT.out hit HM.out HM2.out hff hu hr)
    have hgu := goW_take hif HG.out hu
    have hiu := goW_in HX.out _ _ u (InX.zero HX.out) hgu
    have hul := hiu.tl HM2.out
    obtain ⟨j0, hj0, hj1⟩ := at_of HAR.out (fun f hf => HALL.out f (List.mem_of_mem_take hf)) hgu m
    rw [HNL.out] at hj0
    have HGU := zH hgu
    have HJ1 := zH hj1
    have HSE := zH (fun (a : Option Addr) (c : Nat) (W : World) hr => stat_ok x u m a c W HX.out hiu HM.out HM2.out hr)
    have HUL := zH hul
    have HLL := zH (fun k (hk : k < nl) => ll_len HX.out HAR.out HM2.out (k := k) (by rw [HNL.out]; exact hk))
    clear hgu hj1 hul htl hit hes hif
    go_upto_region 15 with (fail)
    refine wp_region_tree (by kernel_rfl) (fun w15 hwd => ?_)
    have T := zH hwd
    clear hwd
    refine WTq 0 ?_; apply Exists.intro; refine ⟨fun w1 hb1 => ?_, ?_⟩; (focus (((obtain ⟨-, k0, -⟩ := K0.out.to (T.out.trans hb1)); have hb1 := zH hb1; go_simp); (try (go_bits; try go_simp)); (try (rw [if_pos (by omega)]; try go_simp)); (first | done | (with_reducible rfl) | exact rfl)))
    simp only [Act.put, zzT, zzO, zzS]
    refine WTq 1 ?_; apply Exists.intro; refine ⟨fun w1 hb1 => ?_, ?_⟩; (focus ((have hb1 := zH hb1; go_simp); (try (go_bits; try go_simp)); (try (rw [if_pos (by omega)]; try go_simp)); (first | done | (with_reducible rfl) | exact rfl)))
    simp only [Act.put, zzT, zzO, zzS]
    refine WTq 3 ?_; apply Exists.intro; refine ⟨fun w1 hb1 => ?_, ?_⟩; (focus ((have hb1 := zH hb1; go_simp); (try (go_bits; try go_simp)); (try (rw [if_pos (by omega)]; try go_simp)); (first | done | (with_reducible rfl) | exact rfl)))
    simp only [Act.put, zzT, zzO, zzS]
    refine WTq 4 ?_; apply Exists.intro; refine ⟨fun w1 hb1 => ?_, ?_⟩; (focus ((have hb1 := zH hb1; go_simp); (try (go_bits; try go_simp)); (try (rw [if_pos (by omega)]; try go_simp)); (first | done | (with_reducible rfl) | exact rfl)))
    simp only [Act.put, zzT, zzO, zzS]
    refine WTq 5 ?_; apply Exists.intro; refine ⟨fun w1 hb1 => ?_, ?_⟩; (focus ((have hb1 := zH hb1; go_simp); (try (go_bits; try go_simp)); (try (rw [if_pos (by omega)]; try go_simp)); (first | done | (with_reducible rfl) | exact rfl)))
    simp only [Act.put, zzT, zzO, zzS]
    refine WTq 6 ?_; apply Exists.intro; refine ⟨fun w1 hb1 => ?_, ?_⟩; (focus (((have c1 := ((T.out.trans hb1).cell (p := ⟨bf, of + i, none⟩) hbf2).trans ((HB.out.cell (p := ⟨bf, of + i, none⟩) hbf).trans HCF.out)); have hb1 := zH hb1; go_simp); (try (go_bits; try go_simp)); (try (rw [if_pos (by omega)]; try go_simp)); (first | done | (with_reducible rfl) | exact rfl)))
    simp only [Act.put, zzT, zzO, zzS]
    refine WT_one 2 rfl (by kernel_rfl) ?_
    unfold stepT
    go_wp2_with fail
    refine (HCM.out _ (HRT.out.to T.out)).mono ?_
    rintro e w15e ⟨a15, c15, rfl, hr15, hb⟩
    have HR15 := zH hr15
    have hbd := zH (hb.mono T.out.size)
    replace T := zH (bThen T.out hb)
    clear hb hr15
    go_wp2_with fail
    refine ⟨hbd.out, ?_⟩
    clear hbd
    refine WT_one 7 rfl (by kernel_rfl) ?_
    unfold stepT
    go_wp2_with fail
    refine (HNF.out _ _ _ HR15.out).mono ?_
    rintro e w15f ⟨aU, cU, rfl, hrU, hb⟩
    have hbd := zH (hb.mono T.out.size)
    replace T := zH (bThen T.out hb)
    have HRU := zH hrU
    clear hrU
    clear hb HR15
    go_wp2_with fail
    refine ⟨hbd.out, ?_⟩
    clear hbd
    refine WTq 8 ?_; apply Exists.intro; refine ⟨fun w1 hb1 => ?_, ?_⟩; (focus ((have hb1 := zH hb1; go_simp); (try (go_bits; try go_simp)); (try (rw [if_pos (by omega)]; try go_simp)); (first | done | (with_reducible rfl) | exact rfl)))
    simp only [Act.put, zzT, zzO, zzS]
    refine WTq 9 ?_; apply Exists.intro; refine ⟨fun w1 hb1 => ?_, ?_⟩; (focus ((have hb1 := zH hb1; go_simp); (try (go_bits; try go_simp)); (try (rw [if_pos (by omega)]; try go_simp)); (first | done | (with_reducible rfl) | exact rfl)))
    simp only [Act.put, zzT, zzO, zzS]
    refine WTq 10 ?_; apply Exists.intro; refine ⟨fun w1 hb1 => ?_, ?_⟩; (focus ((have hb1 := zH hb1; go_simp); (try (go_bits; try go_simp)); (try (rw [if_pos (by omega)]; try go_simp)); (first | done | (with_reducible rfl) | exact rfl)))
    simp only [Act.put, zzT, zzO, zzS]
    refine WTq 11 ?_; apply Exists.intro; refine ⟨fun w1 hb1 => ?_, ?_⟩; (focus ((have hb1 := zH hb1; go_simp); (try (go_bits; try go_simp)); (try (rw [if_pos (by omega)]; try go_simp)); (first | done | (with_reducible rfl) | exact rfl)))
    simp only [Act.put, zzT, zzO, zzS]
    refine WTq 12 ?_; apply Exists.intro; refine ⟨fun w1 hb1 => ?_, ?_⟩; (focus ((have hb1 := zH hb1; go_simp); (try (go_bits; try go_simp)); (try (rw [if_pos (by omega)]; try go_simp)); (first | done | (with_reducible rfl) | exact rfl)))
    simp only [Act.put, zzT, zzO, zzS]
    refine WT_done (by kernel_rfl) ?_
    have hb := T.out
    replace K0 := zH (K0.out.to hb)
    replace HB := zH (bThen HB.out hb)
    replace HLS := zH (HLS.out.to hb)
    replace HBO := zH (bThen HBO.out hb)
    clear T hb hK0 hbf2
    obtain ⟨-, k0, -⟩ := K0.out
    go_wp2_with fail
    refine (HSE.out _ _ _ HRU.out).mono ?_
    rintro e w19 ⟨rfl, hb⟩
    replace K0 := zH (K0.out.to hb)
    replace HB := zH (bThen HB.out hb)
    replace HLS := zH (HLS.out.to hb)
    replace HBO := zH (bThen HBO.out hb)
    replace HRU := zH (HRU.out.to hb)
    clear hb k0
    go_wp2_with fail
    go_loopw [18] (fun s18 wr => ∃ (k : Nat), s18 = .int .i64 k ∧ k ≤ j0 ∧ Hid (Below w19.heap.size w19 wr)) (fun s18 _ => j0 + 1 - (intOf s18).toNat)
    case atStart => exact ⟨0, rfl, Nat.zero_le _, zH (bSelf _)⟩
    obtain ⟨k, rfl, hk, HBK2⟩ := hrel
    have hkn : k < nl := by omega
    have hkc : (k : Int) ≤ 2401 := by omega
    have hknc : (k : Int) < (nl : Int) := by omega
    obtain ⟨bl, ol, rfl, hbl, hcl⟩ := (HLS.out.to HBK2.out).rd.at (k := k) (by rw [List.length_map, HNL.out]; exact hkn)
    have hcl2 := hcl k (by rw [List.length_map, HNL.out]; exact hkn)
    have hkl := HLL.out k hkn
    have hrk := (HLS.out.to HBK2.out).dm k (by rw [List.length_map, HNL.out]; exact hkn)
    unfold lsF at hcl2
    rw [hkl] at hcl2 hrk
    have HIN := zH (fun (c : Nat) => ints_m _ (u.take m) m (dS k).1 aU (dS k).2 c wr hkl HUL.out (by omega) hrk (HRU.out.to HBK2.out))
    have HBR2 := zH (bThen HB.out HBK2.out)
    clear hcl hkl hrk
    by_cases heq : ll (l.map fun z => z.take m) k = u.take m
    · have hde : decide (ll (l.map fun z => z.take m) k = u.take m) = true := decide_eq_true heq
      rw [hde] at HIN
      clear heq hde
      go_wp2_with fail
      refine (HIN.out _).mono ?_
      rintro e w22 ⟨rfl, hb⟩
      have HB22 := zH (bThen HBK2.out hb)
      have hne : ((k : Int) == (nl : Int)) = false := beq_false_of_ne (by omega)
      clear hb hcl2
      go_wp2_with fail
      go_roundw
      case rel => exact ⟨i + 1, u, aU, cU, rfl, by go_num, by omega, HGU, zH (HRU.out.to HB22.out), zH (bThen HBO.out HB22.out)⟩
      case measure => simp [intOf]; omega
    · have hde : decide (ll (l.map fun z => z.take m) k = u.take m) = false := decide_eq_false heq
      have hkj : k < j0 := by
        rcases Nat.lt_or_ge k j0 with h | h
        · exact h
        · have : k = j0 := by omega
          subst this
          exact absurd HJ1.out heq
      rw [hde] at HIN
      clear heq hde
      go_wp2_with fail
      refine (HIN.out _).mono ?_
      rintro e w22 ⟨rfl, hb⟩
      have HB22 := zH (bThen HBK2.out hb)
      clear hb hcl2
      go_wp2_with fail
      go_roundw
      case rel => exact ⟨k + 1, by go_num, by omega, HB22⟩
      case measure => simp [intOf]; omega
  · obtain rfl : n = i := by omega
    have HFH := zH (fun W => few_held x W HX.out HHH.out)
    have HWH := zH (fun W => wid_held x W HX.out HHH.out)
    have HGD := zH (fun W => gd_held x W HTT.out)
    have HLH := zH (fun k W hk hd => late_held x k W HX.out hk hd)
    have hK0 := K0.out.1
    clear HR0 HRT HG HLS HAR HCC
    go_upto_region 39 with (fail)
    refine wp_region_tree (by kernel_rfl) (fun w39 hwd => ?_)
    have T := zH hwd
    clear hwd
    refine WTq 0 ?_; apply Exists.intro; refine ⟨fun w1 hb1 => ?_, ?_⟩; (focus (((obtain ⟨-, k0, -⟩ := K0.out.to (T.out.trans hb1)); have hb1 := zH hb1; go_simp); (try (go_bits; try go_simp)); (try (rw [if_pos (by omega)]; try go_simp)); (first | done | (with_reducible rfl) | exact rfl)))
    simp only [Act.put, zzT, zzO, zzS]
    refine WTq 1 ?_; apply Exists.intro; refine ⟨fun w1 hb1 => ?_, ?_⟩; (focus (((obtain ⟨-, k0, -⟩ := K0.out.to (T.out.trans hb1)); have hb1 := zH hb1; go_simp); (try (go_bits; try go_simp)); (try (rw [if_pos (by omega)]; try go_simp)); (first | done | (with_reducible rfl) | exact rfl)))
    simp only [Act.put, zzT, zzO, zzS]
    refine WT_two 2 3 rfl rfl (by kernel_rfl) ?_ ?_
    · unfold stepT
      go_wp2_with fail
      obtain ⟨v101, hwA⟩ : ∃ wA, w39.alloc (.cells #[.int .i64 0, .int .i64 0, .int .i64 0, .int .i64 0, .int .i64 0, .bool false, .int .i64 0, .int .i64 0, .int .i64 0] 25) = wA := ⟨_, rfl⟩
      rw [hwA]
      have hb : Below w39.heap.size w39 v101 := by subst hwA; exact bAlloc (bSelf _) _
      have KF : Hid (Blk v101 w39.heap.size #[.int .i64 0, .int .i64 0, .int .i64 0, .int .i64 0, .int .i64 0, .bool false, .int .i64 0, .int .i64 0, .int .i64 0]) := by subst hwA; exact Blk.new _ _ _
      clear hwA
      have NF : Hid (wo.heap.size ≤ w39.heap.size) := zH T.out.size
      obtain ⟨BF, hBF⟩ : ∃ N, w39.heap.size = N := ⟨_, rfl⟩
      have hbd := zH (hb.mono T.out.size)
      replace T := zH (bThen T.out hb)
      clear hb
      rw [hBF] at KF NF ⊢
      clear hBF
      refine ⟨hbd.out, ?_⟩
      clear hbd
      refine WT_one 3 rfl (by kernel_rfl) ?_
      unfold stepT
      go_wp2_with fail
      obtain ⟨v102, hwA⟩ : ∃ wA, v101.alloc (.cells #[.int .i64 0, .int .i64 0, .int .i64 0, .int .i64 0, .int .i64 0, .bool false, .int .i64 0, .int .i64 0, .int .i64 0] 25) = wA := ⟨_, rfl⟩
      rw [hwA]
      have hb : Below v101.heap.size v101 v102 := by subst hwA; exact bAlloc (bSelf _) _
      have HNE : Hid (BF ≠ v101.heap.size) := zH (by have := KF.out.1; omega)
      replace KF := zH (KF.out.to hb)
      have KW : Hid (Blk v102 v101.heap.size #[.int .i64 0, .int .i64 0, .int .i64 0, .int .i64 0, .int .i64 0, .bool false, .int .i64 0, .int .i64 0, .int .i64 0]) := by subst hwA; exact Blk.new _ _ _
      clear hwA
      have NW : Hid (wo.heap.size ≤ v101.heap.size) := zH T.out.size
      obtain ⟨BW, hBW⟩ : ∃ N, v101.heap.size = N := ⟨_, rfl⟩
      have hbd := zH (hb.mono T.out.size)
      replace T := zH (bThen T.out hb)
      clear hb
      rw [hBW] at KW NW HNE ⊢
      clear hBW
      refine ⟨hbd.out, ?_⟩
      clear hbd
      refine WT_one 4 rfl (by kernel_rfl) ?_
      unfold stepT
      obtain ⟨-, kx, fx⟩ := KF.out
      go_wp2_with fail
      clear kx fx
      obtain ⟨v103, hu⟩ : ∃ u, set9 v102 BF (.int .i64 x.m) (.int .i64 x.d) (.int .i64 x.c) (.int .i64 x.s) (.int .i64 x.dl) (.bool x.cp) (.int .i64 x.b) (.int .i64 x.lo) (.int .i64 x.hi) = u := ⟨_, rfl⟩
      have hb := below_set9 (Below.refl wo.heap.size v102) NF.out (.int .i64 x.m) (.int .i64 x.d) (.int .i64 x.c) (.int .i64 x.s) (.int .i64 x.dl) (.bool x.cp) (.int .i64 x.b) (.int .i64 x.lo) (.int .i64 x.hi)
      have h2 := KF.out.set9 (.int .i64 x.m) (.int .i64 x.d) (.int .i64 x.c) (.int .i64 x.s) (.int .i64 x.dl) (.bool x.cp) (.int .i64 x.b) (.int .i64 x.lo) (.int .i64 x.hi)
      have hoW := set9_other KW.out (b' := BF) (by have := HNE.out; omega) (.int .i64 x.m) (.int .i64 x.d) (.int .i64 x.c) (.int .i64 x.s) (.int .i64 x.dl) (.bool x.cp) (.int .i64 x.b) (.int .i64 x.lo) (.int .i64 x.hi)
      rw [hu] at hoW
      replace KW := zH hoW
      clear hoW
      rw [hu] at hb h2
      dsimp only [set9] at hu
      rw [hu]
      replace KF := zH h2
      clear h2 hu
      replace T := zH (T.out.trans hb)
      refine ⟨hb, ?_⟩
      clear hb
      refine WT_one 5 rfl (by kernel_rfl) ?_
      unfold stepT
      obtain ⟨-, kx, fx⟩ := KW.out
      go_wp2_with fail
      clear kx fx
      obtain ⟨v104, hu⟩ : ∃ u, set9 v103 BW (.int .i64 x.m) (.int .i64 x.d) (.int .i64 x.c) (.int .i64 x.s) (.int .i64 x.dl) (.bool x.cp) (.int .i64 x.b) (.int .i64 x.lo) (.int .i64 x.hi) = u := ⟨_, rfl⟩
      have hb := below_set9 (Below.refl wo.heap.size v103) NW.out (.int .i64 x.m) (.int .i64 x.d) (.int .i64 x.c) (.int .i64 x.s) (.int .i64 x.dl) (.bool x.cp) (.int .i64 x.b) (.int .i64 x.lo) (.int .i64 x.hi)
      have h2 := KW.out.set9 (.int .i64 x.m) (.int .i64 x.d) (.int .i64 x.c) (.int .i64 x.s) (.int .i64 x.dl) (.bool x.cp) (.int .i64 x.b) (.int .i64 x.lo) (.int .i64 x.hi)
      have hoF := set9_other KF.out (b' := BW) (by have := HNE.out; omega) (.int .i64 x.m) (.int .i64 x.d) (.int .i64 x.c) (.int .i64 x.s) (.int .i64 x.dl) (.bool x.cp) (.int .i64 x.b) (.int .i64 x.lo) (.int .i64 x.hi)
      rw [hu] at hoF
      replace KF := zH hoF
      clear hoF
      rw [hu] at hb h2
      dsimp only [set9] at hu
      rw [hu]
      replace KW := zH h2
      clear h2 hu
      replace T := zH (T.out.trans hb)
      refine ⟨hb, ?_⟩
      clear hb
      refine WT_done (by kernel_rfl) ?_
      obtain ⟨wq, hwq⟩ : ∃ z, z = v104 := ⟨_, rfl⟩
      subst hwq
      replace K0 := zH (K0.out.to T.out)
      replace HB := zH (bThen HB.out T.out)
      clear T
      obtain ⟨-, k0, -⟩ := K0.out
      obtain ⟨-, kf, ff⟩ := KF.out
      obtain ⟨-, kw, fw⟩ := KW.out
      go_upto_region 42 with (fail)
      clear k0 kf ff kw fw
      have hwr := wrap_mid HX.out
      rw [hwr]
      obtain ⟨wy, hwy⟩ : ∃ u, (wq.setCell ⟨BF, 8, none⟩ (.int .i64 (x.lo + (x.hi - x.lo) / 2))).setCell ⟨BW, 6, none⟩ (.int .i64 (min 3 (x.b + 1))) = u := ⟨_, rfl⟩
      rw [hwy]
      have KF2 : Hid (Blk wy BF (fewX x).cells) := by
        subst hwy
        have h1 := (KF.out.set 8 (.int .i64 (x.lo + (x.hi - x.lo) / 2))).other (p := ⟨BW, 6, none⟩) (by have := HNE.out; dsimp only; omega) (.int .i64 (min 3 (x.b + 1)))
        exact zH h1
      have KW2 : Hid (Blk wy BW (widX x).cells) := by
        subst hwy
        have h1 := (KW.out.other (p := ⟨BF, 8, none⟩) (by have := HNE.out; dsimp only; omega) (.int .i64 (x.lo + (x.hi - x.lo) / 2))).set 6 (.int .i64 (min 3 (x.b + 1)))
        exact zH h1
      have K02 : Hid (Blk wy w.heap.size x.cells) := by
        subst hwy
        exact zH ((K0.out.other (p := ⟨BF, 8, none⟩) (by have := NF.out; dsimp only; omega) _).other (p := ⟨BW, 6, none⟩) (by have := NW.out; dsimp only; omega) _)
      have HB2 : Hid (Below w.heap.size w wy) := by
        subst hwy
        exact zH ((HB.out.setCell (p := ⟨BF, 8, none⟩) (by have := NF.out; dsimp only; omega) _).setCell (p := ⟨BW, 6, none⟩) (by have := NW.out; dsimp only; omega) _)
      clear hwy KF KW K0 HB hwr
      obtain ⟨-, kf, -⟩ := KF2.out
      go_wp2_with fail
      refine (HFH.out _).mono ?_
      rintro e x42 ⟨rfl, hb⟩
      replace KW2 := zH (KW2.out.to hb)
      replace K02 := zH (K02.out.to hb)
      replace HB2 := zH (bThen HB2.out hb)
      clear hb kf KF2
      obtain ⟨-, kw, -⟩ := KW2.out
      go_wp2_with fail
      refine (HWH.out _).mono ?_
      rintro e x43 ⟨rfl, hb⟩
      replace K02 := zH (K02.out.to hb)
      replace HB2 := zH (bThen HB2.out hb)
      clear hb kw KW2
      obtain ⟨-, k0, -⟩ := K02.out
      go_wp2_with fail
      refine (HGD.out _).mono ?_
      rintro e x44 ⟨k, hk, rfl, hkd, hb⟩
      have HKD := zH hkd
      replace K02 := zH (K02.out.to hb)
      replace HB2 := zH (bThen HB2.out hb)
      clear hb k0 hkd
      have hk1 : (k : Int) ≤ 3 := by omega
      by_cases hk0 : k = 0
      · subst hk0
        have hu : unl (decide (0 < 0)) 12 = 12 := rfl
        rw [hu]
        have hw1 : decide ((0 : Int) ≤ ((0 - 1 : Nat) : Int)) = true := rfl
        clear hu
        go_wp2_with (go_at_call 20; refine (bWithin_any _ _ _ _).mono ?_; rintro e w' ⟨rfl, rfl⟩)
        go_ret
        exact ⟨rfl, HB2.out⟩
      · have hu : unl (decide (0 < k)) 12 = 0 := by rw [decide_eq_true (by omega)]; rfl
        rw [hu]
        obtain ⟨d, hd⟩ : ∃ d, k - 1 = d := ⟨_, rfl⟩
        rw [hd]
        have hd2 : (d : Int) ≤ 2 := by omega
        have hd0 : (0 : Int) ≤ (d : Int) := by omega
        have hdd : d < k := by omega
        have HLT := zH (fun W => HLH.out d W (by omega) (HKD.out d hdd))
        clear hu hd
        obtain ⟨-, k0, -⟩ := K02.out
        have hw1 : (decide ((0 : Int) ≤ (d : Int)) && decide ((d : Int) ≤ 2)) = true := by simp; omega
        go_upto_region 51 with (go_at_call 20; refine (bWithin_any _ _ _ _).mono ?_; rintro e w' ⟨rfl, rfl⟩)
        clear k0
        obtain ⟨x45, hx45⟩ : ∃ u, x44.alloc (.cells (latX x d).cells 25) = u := ⟨_, rfl⟩
        have hx46 := hx45
        dsimp only [latX, HT.cells] at hx46
        rw [hx46]
        have hb : Below x44.heap.size x44 x45 := by subst hx45; exact bAlloc (bSelf _) _
        have KL : Hid (Blk x45 x44.heap.size (latX x d).cells) := by subst hx45; exact zH (Blk.new _ _ _)
        replace HB2 := zH (bThen HB2.out hb)
        clear hb hx45 hx46
        obtain ⟨-, kl, -⟩ := KL.out
        go_wp2_with fail
        refine (HLT.out _).mono ?_
        rintro e x51 ⟨rfl, hb⟩
        replace HB2 := zH (bThen HB2.out hb)
        clear hb kl
        go_wp2_with fail
        go_ret
        exact ⟨rfl, HB2.out⟩
    · unfold stepT
      go_wp2_with fail
      obtain ⟨v101, hwA⟩ : ∃ wA, w39.alloc (.cells #[.int .i64 0, .int .i64 0, .int .i64 0, .int .i64 0, .int .i64 0, .bool false, .int .i64 0, .int .i64 0, .int .i64 0] 25) = wA := ⟨_, rfl⟩
      rw [hwA]
      have hb : Below w39.heap.size w39 v101 := by subst hwA; exact bAlloc (bSelf _) _
      have KW : Hid (Blk v101 w39.heap.size #[.int .i64 0, .int .i64 0, .int .i64 0, .int .i64 0, .int .i64 0, .bool false, .int .i64 0, .int .i64 0, .int .i64 0]) := by subst hwA; exact Blk.new _ _ _
      clear hwA
      have NW : Hid (wo.heap.size ≤ w39.heap.size) := zH T.out.size
      obtain ⟨BW, hBW⟩ : ∃ N, w39.heap.size = N := ⟨_, rfl⟩
      have hbd := zH (hb.mono T.out.size)
      replace T := zH (bThen T.out hb)
      clear hb
      rw [hBW] at KW NW ⊢
      clear hBW
      refine ⟨hbd.out, ?_⟩
      clear hbd
      refine WT_one 2 rfl (by kernel_rfl) ?_
      unfold stepT
      go_wp2_with fail
      obtain ⟨v102, hwA⟩ : ∃ wA, v101.alloc (.cells #[.int .i64 0, .int .i64 0, .int .i64 0, .int .i64 0, .int .i64 0, .bool false, .int .i64 0, .int .i64 0, .int .i64 0] 25) = wA := ⟨_, rfl⟩
      rw [hwA]
      have hb : Below v101.heap.size v101 v102 := by subst hwA; exact bAlloc (bSelf _) _
      have HNE : Hid (BW ≠ v101.heap.size) := zH (by have := KW.out.1; omega)
      replace KW := zH (KW.out.to hb)
      have KF : Hid (Blk v102 v101.heap.size #[.int .i64 0, .int .i64 0, .int .i64 0, .int .i64 0, .int .i64 0, .bool false, .int .i64 0, .int .i64 0, .int .i64 0]) := by subst hwA; exact Blk.new _ _ _
      clear hwA
      have NF : Hid (wo.heap.size ≤ v101.heap.size) := zH T.out.size
      obtain ⟨BF, hBF⟩ : ∃ N, v101.heap.size = N := ⟨_, rfl⟩
      have hbd := zH (hb.mono T.out.size)
      replace T := zH (bThen T.out hb)
      clear hb
      rw [hBF] at KF NF HNE ⊢
      clear hBF
      refine ⟨hbd.out, ?_⟩
      clear hbd
      refine WT_one 4 rfl (by kernel_rfl) ?_
      unfold stepT
      obtain ⟨-, kx, fx⟩ := KF.out
      go_wp2_with fail
      clear kx fx
      obtain ⟨v103, hu⟩ : ∃ u, set9 v102 BF (.int .i64 x.m) (.int .i64 x.d) (.int .i64 x.c) (.int .i64 x.s) (.int .i64 x.dl) (.bool x.cp) (.int .i64 x.b) (.int .i64 x.lo) (.int .i64 x.hi) = u := ⟨_, rfl⟩
      have hb := below_set9 (Below.refl wo.heap.size v102) NF.out (.int .i64 x.m) (.int .i64 x.d) (.int .i64 x.c) (.int .i64 x.s) (.int .i64 x.dl) (.bool x.cp) (.int .i64 x.b) (.int .i64 x.lo) (.int .i64 x.hi)
      have h2 := KF.out.set9 (.int .i64 x.m) (.int .i64 x.d) (.int .i64 x.c) (.int .i64 x.s) (.int .i64 x.dl) (.bool x.cp) (.int .i64 x.b) (.int .i64 x.lo) (.int .i64 x.hi)
      have hoW := set9_other KW.out (b' := BF) (by have := HNE.out; omega) (.int .i64 x.m) (.int .i64 x.d) (.int .i64 x.c) (.int .i64 x.s) (.int .i64 x.dl) (.bool x.cp) (.int .i64 x.b) (.int .i64 x.lo) (.int .i64 x.hi)
      rw [hu] at hoW
      replace KW := zH hoW
      clear hoW
      rw [hu] at hb h2
      dsimp only [set9] at hu
      rw [hu]
      replace KF := zH h2
      clear h2 hu
      replace T := zH (T.out.trans hb)
      refine ⟨hb, ?_⟩
      clear hb
      refine WT_one 5 rfl (by kernel_rfl) ?_
      unfold stepT
      obtain ⟨-, kx, fx⟩ := KW.out
      go_wp2_with fail
      clear kx fx
      obtain ⟨v104, hu⟩ : ∃ u, set9 v103 BW (.int .i64 x.m) (.int .i64 x.d) (.int .i64 x.c) (.int .i64 x.s) (.int .i64 x.dl) (.bool x.cp) (.int .i64 x.b) (.int .i64 x.lo) (.int .i64 x.hi) = u := ⟨_, rfl⟩
      have hb := below_set9 (Below.refl wo.heap.size v103) NW.out (.int .i64 x.m) (.int .i64 x.d) (.int .i64 x.c) (.int .i64 x.s) (.int .i64 x.dl) (.bool x.cp) (.int .i64 x.b) (.int .i64 x.lo) (.int .i64 x.hi)
      have h2 := KW.out.set9 (.int .i64 x.m) (.int .i64 x.d) (.int .i64 x.c) (.int .i64 x.s) (.int .i64 x.dl) (.bool x.cp) (.int .i64 x.b) (.int .i64 x.lo) (.int .i64 x.hi)
      have hoF := set9_other KF.out (b' := BW) (by have := HNE.out; omega) (.int .i64 x.m) (.int .i64 x.d) (.int .i64 x.c) (.int .i64 x.s) (.int .i64 x.dl) (.bool x.cp) (.int .i64 x.b) (.int .i64 x.lo) (.int .i64 x.hi)
      rw [hu] at hoF
      replace KF := zH hoF
      clear hoF
      rw [hu] at hb h2
      dsimp only [set9] at hu
      rw [hu]
      replace KW := zH h2
      clear h2 hu
      replace T := zH (T.out.trans hb)
      refine ⟨hb, ?_⟩
      clear hb
      refine WT_done (by kernel_rfl) ?_
      obtain ⟨wq, hwq⟩ : ∃ z, z = v104 := ⟨_, rfl⟩
      subst hwq
      replace K0 := zH (K0.out.to T.out)
      replace HB := zH (bThen HB.out T.out)
      clear T
      obtain ⟨-, k0, -⟩ := K0.out
      obtain ⟨-, kf, ff⟩ := KF.out
      obtain ⟨-, kw, fw⟩ := KW.out
      go_upto_region 42 with (fail)
      clear k0 kf ff kw fw
      have hwr := wrap_mid HX.out
      rw [hwr]
      obtain ⟨wy, hwy⟩ : ∃ u, (wq.setCell ⟨BF, 8, none⟩ (.int .i64 (x.lo + (x.hi - x.lo) / 2))).setCell ⟨BW, 6, none⟩ (.int .i64 (min 3 (x.b + 1))) = u := ⟨_, rfl⟩
      rw [hwy]
      have KF2 : Hid (Blk wy BF (fewX x).cells) := by
        subst hwy
        have h1 := (KF.out.set 8 (.int .i64 (x.lo + (x.hi - x.lo) / 2))).other (p := ⟨BW, 6, none⟩) (by have := HNE.out; dsimp only; omega) (.int .i64 (min 3 (x.b + 1)))
        exact zH h1
      have KW2 : Hid (Blk wy BW (widX x).cells) := by
        subst hwy
        have h1 := (KW.out.other (p := ⟨BF, 8, none⟩) (by have := HNE.out; dsimp only; omega) (.int .i64 (x.lo + (x.hi - x.lo) / 2))).set 6 (.int .i64 (min 3 (x.b + 1)))
        exact zH h1
      have K02 : Hid (Blk wy w.heap.size x.cells) := by
        subst hwy
        exact zH ((K0.out.other (p := ⟨BF, 8, none⟩) (by have := NF.out; dsimp only; omega) _).other (p := ⟨BW, 6, none⟩) (by have := NW.out; dsimp only; omega) _)
      have HB2 : Hid (Below w.heap.size w wy) := by
        subst hwy
        exact zH ((HB.out.setCell (p := ⟨BF, 8, none⟩) (by have := NF.out; dsimp only; omega) _).setCell (p := ⟨BW, 6, none⟩) (by have := NW.out; dsimp only; omega) _)
      clear hwy KF KW K0 HB hwr
      obtain ⟨-, kf, -⟩ := KF2.out
      go_wp2_with fail
      refine (HFH.out _).mono ?_
      rintro e x42 ⟨rfl, hb⟩
      replace KW2 := zH (KW2.out.to hb)
      replace K02 := zH (K02.out.to hb)
      replace HB2 := zH (bThen HB2.out hb)
      clear hb kf KF2
      obtain ⟨-, kw, -⟩ := KW2.out
      go_wp2_with fail
      refine (HWH.out _).mono ?_
      rintro e x43 ⟨rfl, hb⟩
      replace K02 := zH (K02.out.to hb)
      replace HB2 := zH (bThen HB2.out hb)
      clear hb kw KW2
      obtain ⟨-, k0, -⟩ := K02.out
      go_wp2_with fail
      refine (HGD.out _).mono ?_
      rintro e x44 ⟨k, hk, rfl, hkd, hb⟩
      have HKD := zH hkd
      replace K02 := zH (K02.out.to hb)
      replace HB2 := zH (bThen HB2.out hb)
      clear hb k0 hkd
      have hk1 : (k : Int) ≤ 3 := by omega
      by_cases hk0 : k = 0
      · subst hk0
        have hu : unl (decide (0 < 0)) 12 = 12 := rfl
        rw [hu]
        have hw1 : decide ((0 : Int) ≤ ((0 - 1 : Nat) : Int)) = true := rfl
        clear hu
        go_wp2_with (go_at_call 20; refine (bWithin_any _ _ _ _).mono ?_; rintro e w' ⟨rfl, rfl⟩)
        go_ret
        exact ⟨rfl, HB2.out⟩
      · have hu : unl (decide (0 < k)) 12 = 0 := by rw [decide_eq_true (by omega)]; rfl
        rw [hu]
        obtain ⟨d, hd⟩ : ∃ d, k - 1 = d := ⟨_, rfl⟩
        rw [hd]
        have hd2 : (d : Int) ≤ 2 := by omega
        have hd0 : (0 : Int) ≤ (d : Int) := by omega
        have hdd : d < k := by omega
        have HLT := zH (fun W => HLH.out d W (by omega) (HKD.out d hdd))
        clear hu hd
        obtain ⟨-, k0, -⟩ := K02.out
        have hw1 : (decide ((0 : Int) ≤ (d : Int)) && decide ((d : Int) ≤ 2)) = true := by simp; omega
        go_upto_region 51 with (go_at_call 20; refine (bWithin_any _ _ _ _).mono ?_; rintro e w' ⟨rfl, rfl⟩)
        clear k0
        obtain ⟨x45, hx45⟩ : ∃ u, x44.alloc (.cells (latX x d).cells 25) = u := ⟨_, rfl⟩
        have hx46 := hx45
        dsimp only [latX, HT.cells] at hx46
        rw [hx46]
        have hb : Below x44.heap.size x44 x45 := by subst hx45; exact bAlloc (bSelf _) _
        have KL : Hid (Blk x45 x44.heap.size (latX x d).cells) := by subst hx45; exact zH (Blk.new _ _ _)
        replace HB2 := zH (bThen HB2.out hb)
        clear hb hx45 hx46
        obtain ⟨-, kl, -⟩ := KL.out
        go_wp2_with fail
        refine (HLT.out _).mono ?_
        rintro e x51 ⟨rfl, hb⟩
        replace HB2 := zH (bThen HB2.out hb)
        clear hb kl
        go_wp2_with fail
        go_ret
        exact ⟨rfl, HB2.out⟩
end
section
open Go.RowKit

set_option maxHeartbeats 12800000 in
set_option maxRecDepth 100000 in
theorem HybridHeld_brk (x : HT) (fs : List Int) (a : Option Addr) (cap : Nat) (w : World) (hx : x.ok) (hT : testE x = 0) (hF : forcesE x fs = 0) (hcap : fs.length ≤ cap) (hr : Reads w a fs.length (ints fs)) (hh : ¬ HldQ (nxH x) (rngL (x.lo, x.hi)) [0, 0, 0, 0]) :
    Calls Try.prog 3 #[.agg x.cells, .slice a fs.length cap] w fun e w' => e = .returned (.bool true) ∧ Below w.heap.size w w' := by
  obtain ⟨hfew, hfz⟩ := forcesE_zero hF
  have HALL : Hid (∀ f ∈ fs, f ∈ rngL (x.lo, x.hi)) := zH (fun f hf => by
    obtain ⟨k, hk, e⟩ := List.mem_iff_getElem.1 hf
    have := hfz k hk
    rw [gi_lt hk, e] at this
    exact rngL_mem.2 this)
  have HFZ := zH hfz
  have HR0 := zH hr
  obtain ⟨m, hm⟩ : ∃ m : Nat, x.dl + 2 = (m : Int) := ⟨(x.dl + 2).toNat, by have := hx.dl1; omega⟩
  have hm2 : m = 2 ∨ m = 3 ∨ m = 4 := by have := hx.dl1; have := hx.dl2; omega
  have HM := zH hm
  have HM2 := zH hm2
  have HTE := zH (fun (W : World) => TestErr_any x W)
  rw [hT] at HTE
  have HFE := zH (fun (W : World) h => ForcesErr_any x fs a cap W (by unfold maxLen; omega) h)
  rw [hF] at HFE
  have HRB := zH (fun (W : World) => reach_ok x W hT hm)
  have HX := zH hx
  have HTT := zH hT
  have HHH := zH hh
  have hb1 := hx.b1
  have hb2 := hx.b2
  have HCP := zH (fun (zs : List Int) (a : Option Addr) (cap : Nat) (W : World) (h : zs.length ≤ 100000) hr => CopyInts_any zs a cap W h hr)
  obtain ⟨zc, hzc⟩ := make_zero hm2
  have HZC := zH hzc.2
  have hmk := hzc.1
  have HHO := zH (fun (W : World) => hold_no x W hx hT hh)
  have HBK := zH (fun (W : World) => brk_no x W hx hT hh)
  have HCC := zH (fun (l : List (List Int)) (da : Nat → Option Addr × Nat) (aL : Option Addr) (cL : Nat) (W : World) (ws : List Int) (ho : OutW (nxH x) (rngL (x.lo, x.hi)) [0, 0, 0, 0] ws) (h : AllR x l) (hL : LsR W aL (l.map fun z => z.take m) da) => closed_no x l da aL cL W hx hT hm hm2 h ho hL)
  clear hfz hr hT hF hh hzc
  obtain ⟨n, hn⟩ : ∃ q, fs.length = q := ⟨_, rfl⟩
  have HN := zH hn
  rw [hn] at hfew hcap HR0 HFE HFZ ⊢
  clear hn
  go_enter Try.func3, Try.ntmps3
  go_wp2_with fail
  refine (awake_any _).mono ?_
  rintro e w1 ⟨rfl, hb⟩
  have K0 := zH ((Blk.new w x.cells 25).to hb)
  have HB := zH (bThen (bAlloc (bSelf w) (.cells x.cells 25)) hb)
  clear hb
  have hf1 : decide ((60 : Int) < (n : Int)) = false := decide_eq_false (by omega)
  obtain ⟨-, k0, -⟩ := K0.out
  go_wp2_with fail
  refine (HTE.out _).mono ?_
  rintro e w2 ⟨rfl, hb⟩
  replace K0 := zH (K0.out.to hb)
  replace HB := zH (bThen HB.out hb)
  clear hb k0
  obtain ⟨-, k0, -⟩ := K0.out
  go_wp2_with fail
  refine (HFE.out _ (HR0.out.to HB.out)).mono ?_
  rintro e w3 ⟨rfl, hb⟩
  replace K0 := zH (K0.out.to hb)
  replace HB := zH (bThen HB.out hb)
  clear hb k0 hf1
  obtain ⟨-, k0, -⟩ := K0.out
  go_wp2_with fail
  refine (HRB.out _).mono ?_
  rintro e w4 ⟨aS, cS, l, dS, rfl, hls, har, hlf, hb⟩
  replace K0 := zH (K0.out.to hb)
  replace HB := zH (bThen HB.out hb)
  have HLS := zH hls
  have HAR := zH har
  obtain ⟨nl, hnl⟩ : ∃ q, l.length = q := ⟨_, rfl⟩
  have HNL := zH hnl
  rw [hnl] at hlf ⊢
  clear hb k0 hls har hnl
  obtain ⟨-, k0, -⟩ := K0.out
  go_wp2_with fail
  refine (HHO.out _).mono ?_
  rintro e w5 ⟨rfl, hb⟩
  replace K0 := zH (K0.out.to hb)
  replace HB := zH (bThen HB.out hb)
  replace HLS := zH (HLS.out.to hb)
  clear hb k0
  obtain ⟨-, k0, -⟩ := K0.out
  go_wp2_with fail
  refine (HBK.out _).mono ?_
  rintro e w6 ⟨aW, cW, ws, rfl, hrw, how, hb⟩
  replace K0 := zH (K0.out.to hb)
  replace HB := zH (bThen HB.out hb)
  replace HLS := zH (HLS.out.to hb)
  have HRW := zH hrw
  have HOW := zH how
  have hnb1 : 1 ≤ ws.length := by obtain ⟨es, f, t, e, -⟩ := how.way; rw [e]; simp
  obtain ⟨nb, hnb⟩ : ∃ q, ws.length = q := ⟨_, rfl⟩
  have HNB := zH hnb
  rw [hnb] at hnb1 HRW ⊢
  clear hb k0 hrw how hnb
  have hK0 := K0.out.1
  go_upto_region 8 with (fail)
  refine wp_region_mix [2, 3] (by kernel_rfl) (by kernel_rfl) (fun _ _ _ _ _ h => h) (fun w7d hwd => ?_)
  have T := zH hwd
  clear hwd
  repeat (first | (refine WM_no (by rfl) (by rfl) ?_; (simp only [Act.put, zzT, zzO, zzS])) | (refine WM_yes (by rfl) (by rfl) ?_; apply Exists.intro; refine ⟨fun w1 hb1 => ?_, ?_⟩; (focus (((obtain ⟨-, k0, -⟩ := (K0.out.to T.out).below hb1 hK0); have hb1 := zH hb1; go_simp); (try (go_bits; try go_simp)); (try (rw [if_pos (by omega)]; try go_simp)); (first | done | (with_reducible rfl) | exact rfl))); (simp only [Act.put, zzT, zzO, zzS])))
  refine WM_x (by rfl) ?_
  go_wp2_with fail
  refine (copy_ls l m dS aS cS nl _ HNL.out (by omega) HAR.out HX.out HM2.out (HLS.out.to T.out)).mono ?_
  rintro e w7e ⟨a7, c7, d7, rfl, hl7, hb⟩
  have HL7 := zH hl7
  have hbd := zH (hb.mono T.out.size)
  replace T := zH (bThen T.out hb)
  clear hb hl7
  go_wp2_with fail
  refine ⟨hbd.out, ?_⟩
  clear hbd
  repeat (first | (refine WM_no (by rfl) (by rfl) ?_; (simp only [Act.put, zzT, zzO, zzS])) | (refine WM_yes (by rfl) (by rfl) ?_; apply Exists.intro; refine ⟨fun w1 hb1 => ?_, ?_⟩; (focus (((obtain ⟨-, k0, -⟩ := (K0.out.to T.out).below hb1 hK0); have hb1 := zH hb1; go_simp); (try (go_bits; try go_simp)); (try (rw [if_pos (by omega)]; try go_simp)); (first | done | (with_reducible rfl) | exact rfl))); (simp only [Act.put, zzT, zzO, zzS])))
  refine WM_x (by rfl) ?_
  go_wp2_with fail
  have hcc := HCC.out l d7 a7 c7 _ ws HOW.out HAR.out HL7.out
  rw [HNL.out] at hcc
  refine hcc.mono ?_
  rintro e w7f ⟨⟨cc, rfl⟩, hb⟩
  have hbd := zH (hb.mono T.out.size)
  replace T := zH (bThen T.out hb)
  clear hb HL7 hcc
  go_wp2_with fail
  refine ⟨hbd.out, ?_⟩
  clear hbd
  repeat (first | (refine WM_no (by rfl) (by rfl) ?_; (simp only [Act.put, zzT, zzO, zzS])) | (refine WM_yes (by rfl) (by rfl) ?_; apply Exists.intro; refine ⟨fun w1 hb1 => ?_, ?_⟩; (focus ((have hb1 := zH hb1; go_simp); (try (go_bits; try go_simp)); (try (rw [if_pos (by omega)]; try go_simp)); (first | done | (with_reducible rfl) | exact rfl))); (simp only [Act.put, zzT, zzO, zzS])))
  refine WM_nil ?_
  have hb := T.out
  replace K0 := zH (K0.out.to hb)
  replace HB := zH (bThen HB.out hb)
  replace HLS := zH (HLS.out.to hb)
  replace HRW := zH (HRW.out.to hb)
  clear T hb hK0
  have hnb0 : ((nb : Int) == 0) = false := beq_false_of_ne (by omega)
  obtain ⟨-, k0, -⟩ := K0.out
  have hm' := HM.out
  go_wp2_with fail
  obtain ⟨w8, hw8⟩ : ∃ u, w7f.alloc (.cells zc 3) = u := ⟨_, rfl⟩
  rw [hw8]
  have hb : Below w7f.heap.size w7f w8 := by subst hw8; exact bAlloc (bSelf _) _
  have HR8 : Hid (Reads w8 (some ⟨w7f.heap.size, 0, none⟩) m (ints (([0, 0, 0, 0] : List Int).take m))) := by subst hw8; exact zH (HZC.out _)
  replace K0 := zH (K0.out.to hb)
  replace HB := zH (bThen HB.out hb)
  replace HLS := zH (HLS.out.to hb)
  replace HRW := zH (HRW.out.to hb)
  clear hb hw8 k0 hm' HZC hmk
  obtain ⟨BZ, hBZ⟩ : ∃ q, w7f.heap.size = q := ⟨_, rfl⟩
  rw [hBZ] at HR8 ⊢
  clear hBZ
  go_loopw [13, 14] (fun s13 s14 wr => ∃ (i : Nat) (t : List Int) (a13 : Option Addr) (c13 : Nat), s13 = .slice a13 m c13 ∧ s14 = .int .i64 i ∧ i ≤ n ∧ Hid (goW (nxH x) [0, 0, 0, 0] (fs.take i) = some t) ∧ Hid (Reads wr a13 m (ints (t.take m))) ∧ Hid (Below w8.heap.size w8 wr)) (fun _ s14 _ => n - (intOf s14).toNat)
  case atStart => exact ⟨0, [0, 0, 0, 0], _, _, rfl, rfl, Nat.zero_le _, zH rfl, HR8, zH (bSelf _)⟩
  obtain ⟨i, t, a13, c13, rfl, rfl, hi, HG, HRT, HBW⟩ := hrel
  clear HR8
  obtain ⟨wo, hwo⟩ : ∃ wo, wo = wr := ⟨_, rfl⟩
  subst hwo
  have HBO := HBW
  replace HB := zH (bThen HB.out HBW.out)
  replace K0 := zH (K0.out.to HBW.out)
  replace HLS := zH (HLS.out.to HBW.out)
  replace HRW := zH (HRW.out.to HBW.out)
  by_cases hlt : i < n
  · have hif : i < fs.length := by rw [HN.out]; exact hlt
    have hff := HFZ.out i hlt
    have hes : ∀ f ∈ fs.take i, f ∈ rngL (x.lo, x.hi) := fun f hf => HALL.out f (List.mem_of_mem_take hf)
    have hit := goW_in HX.out _ _ t (InX.zero HX.out) HG.out
    have htl := hit.tl HM2.out
    obtain ⟨bf, of, rfl, hbf, hcf⟩ := HR0.out.at hlt
    have HCF : Hid (w.cell? ⟨bf, of + i, none⟩ = some (.int .i64 (gi fs i))) := zH (hcf i hlt)
    have HCM := zH (fun W hr => copy_m (t.take m) m a13 c13 W htl (by omega) hr)
    have hK0 := K0.out.1
    have hbf2 : bf < wo.heap.size := by have := HB.out.size; omega
    have hic : (i : Int) ≤ 60 := by omega
    clear hcf
    cases hu : nxH x t (gi fs i) with
    | some u =>
      have HNF := zH (fun (a : Option Addr) (c : Nat) (W : World) hr => next_yes x t u (gi fs i) m a c W HX.out HTT.out hit HM.out HM2.out hff hu hr)
      have hgu := goW_take hif HG.out hu
      have hiu := goW_in HX.out _ _ u (InX.zero HX.out) hgu
      have hul := hiu.tl HM2.out
      obtain ⟨j0, hj0, hj1⟩ := at_of HAR.out (fun f hf => HALL.out f (List.mem_of_mem_take hf)) hgu m
      rw [HNL.out] at hj0
      have HGU := zH hgu
      have HJ1 := zH hj1
      have HSE := zH (fun (a : Option Addr) (c : Nat) (W : World) hr => stat_ok x u m a c W HX.out hiu HM.out HM2.out hr)
      have HUL := zH hul
      have HLL := zH (fun k (hk : k < nl) => ll_len HX.out HAR.out HM2.out (k := k) (by rw [HNL.out]; exact hk))
      clear hgu hj1 hul htl hit hes hif
      go_upto_region 15 with (fail)
      refine wp_region_tree (by kernel_rfl) (fun w15 hwd => ?_)
      have T := zH hwd
      clear hwd
      refine WTq 0 ?_; apply Exists.intro; refine ⟨fun w1 hb1 => ?_, ?_⟩; (focus (((obtain ⟨-, k0, -⟩ := K0.out.to (T.out.trans hb1)); have hb1 := zH hb1; go_simp); (try (go_bits; try go_simp)); (try (rw [if_pos (by omega)]; try go_simp)); (first | done | (with_reducible rfl) | exact rfl)))
      simp only [Act.put, zzT, zzO, zzS]
      refine WTq 1 ?_; apply Exists.intro; refine ⟨fun w1 hb1 => ?_, ?_⟩; (focus ((have hb1 := zH hb1; go_simp); (try (go_bits; try go_simp)); (try (rw [if_pos (by omega)]; try go_simp)); (first | done | (with_reducible rfl) | exact rfl)))
      simp only [Act.put, zzT, zzO, zzS]
      refine WTq 3 ?_; apply Exists.intro; refine ⟨fun w1 hb1 => ?_, ?_⟩; (focus ((have hb1 := zH hb1; go_simp); (try (go_bits; try go_simp)); (try (rw [if_pos (by omega)]; try go_simp)); (first | done | (with_reducible rfl) | exact rfl)))
      simp only [Act.put, zzT, zzO, zzS]
      refine WTq 4 ?_; apply Exists.intro; refine ⟨fun w1 hb1 => ?_, ?_⟩; (focus ((have hb1 := zH hb1; go_simp); (try (go_bits; try go_simp)); (try (rw [if_pos (by omega)]; try go_simp)); (first | done | (with_reducible rfl) | exact rfl)))
      simp only [Act.put, zzT, zzO, zzS]
      refine WTq 5 ?_; apply Exists.intro; refine ⟨fun w1 hb1 => ?_, ?_⟩; (focus ((have hb1 := zH hb1; go_simp); (try (go_bits; try go_simp)); (try (rw [if_pos (by omega)]; try go_simp)); (first | done | (with_reducible rfl) | exact rfl)))
      simp only [Act.put, zzT, zzO, zzS]
      refine WTq 6 ?_; apply Exists.intro; refine ⟨fun w1 hb1 => ?_, ?_⟩; (focus (((have c1 := ((T.out.trans hb1).cell (p := ⟨bf, of + i, none⟩) hbf2).trans ((HB.out.cell (p := ⟨bf, of + i, none⟩) hbf).trans HCF.out)); have hb1 := zH hb1; go_simp); (try (go_bits; try go_simp)); (try (rw [if_pos (by omega)]; try go_simp)); (first | done | (with_reducible rfl) | exact rfl)))
      simp only [Act.put, zzT, zzO, zzS]
      refine WT_one 2 rfl (by kernel_rfl) ?_
      unfold stepT
      go_wp2_with fail
      refine (HCM.out _ (HRT.out.to T.out)).mono ?_
      rintro e w15e ⟨a15, c15, rfl, hr15, hb⟩
      have HR15 := zH hr15
      have hbd := zH (hb.mono T.out.size)
      replace T := zH (bThen T.out hb)
      clear hb hr15
      go_wp2_with fail
      refine ⟨hbd.out, ?_⟩
      clear hbd
      refine WT_one 7 rfl (by kernel_rfl) ?_
      unfold stepT
      go_wp2_with fail
      refine (HNF.out _ _ _ HR15.out).mono ?_
      rintro e w15f ⟨aU, cU, rfl, hrU, hb⟩
      have hbd := zH (hb.mono T.out.size)
      replace T := zH (bThen T.out hb)
      have HRU := zH hrU
      clear hrU
      clear hb HR15
      go_wp2_with fail
      refine ⟨hbd.out, ?_⟩
      clear hbd
      refine WTq 8 ?_; apply Exists.intro; refine ⟨fun w1 hb1 => ?_, ?_⟩; (focus ((have hb1 := zH hb1; go_simp); (try (go_bits; try go_simp)); (try (rw [if_pos (by omega)]; try go_simp)); (first | done | (with_reducible rfl) | exact rfl)))
      simp only [Act.put, zzT, zzO, zzS]
      refine WTq 9 ?_; apply Exists.intro; refine ⟨fun w1 hb1 => ?_, ?_⟩; (focus ((have hb1 := zH hb1; go_simp); (try (go_bits; try go_simp)); (try (rw [if_pos (by omega)]; try go_simp)); (first | done | (with_reducible rfl) | exact rfl)))
      simp only [Act.put, zzT, zzO, zzS]
      refine WTq 10 ?_; apply Exists.intro; refine ⟨fun w1 hb1 => ?_, ?_⟩; (focus ((have hb1 := zH hb1; go_simp); (try (go_bits; try go_simp)); (try (rw [if_pos (by omega)]; try go_simp)); (first | done | (with_reducible rfl) | exact rfl)))
      simp only [Act.put, zzT, zzO, zzS]
      refine WTq 11 ?_; apply Exists.intro; refine ⟨fun w1 hb1 => ?_, ?_⟩; (focus ((have hb1 := zH hb1; go_simp); (try (go_bits; try go_simp)); (try (rw [if_pos (by omega)]; try go_simp)); (first | done | (with_reducible rfl) | exact rfl)))
      simp only [Act.put, zzT, zzO, zzS]
      refine WTq 12 ?_; apply Exists.intro; refine ⟨fun w1 hb1 => ?_, ?_⟩; (focus ((have hb1 := zH hb1; go_simp); (try (go_bits; try go_simp)); (try (rw [if_pos (by omega)]; try go_simp)); (first | done | (with_reducible rfl) | exact rfl)))
      simp only [Act.put, zzT, zzO, zzS]
      refine WT_done (by kernel_rfl) ?_
      have hb := T.out
      replace K0 := zH (K0.out.to hb)
      replace HB := zH (bThen HB.out hb)
      replace HLS := zH (HLS.out.to hb)
      replace HRW := zH (HRW.out.to hb)
      replace HBO := zH (bThen HBO.out hb)
      clear T hb hK0 hbf2
      obtain ⟨-, k0, -⟩ := K0.out
      go_wp2_with fail
      refine (HSE.out _ _ _ HRU.out).mono ?_
      rintro e w19 ⟨rfl, hb⟩
      replace K0 := zH (K0.out.to hb)
      replace HB := zH (bThen HB.out hb)
      replace HLS := zH (HLS.out.to hb)
      replace HRW := zH (HRW.out.to hb)
      replace HBO := zH (bThen HBO.out hb)
      replace HRU := zH (HRU.out.to hb)
      clear hb k0
      go_wp2_with fail
      go_loopw [18] (fun s18 wr => ∃ (k : Nat), s18 = .int .i64 k ∧ k ≤ j0 ∧ Hid (Below w19.heap.size w19 wr)) (fun s18 _ => j0 + 1 - (intOf s18).toNat)
      case atStart => exact ⟨0, rfl, Nat.zero_le _, zH (bSelf _)⟩
      obtain ⟨k, rfl, hk, HBK2⟩ := hrel
      have hkn : k < nl := by omega
      have hkc : (k : Int) ≤ 2401 := by omega
      have hknc : (k : Int) < (nl : Int) := by omega
      obtain ⟨bl, ol, rfl, hbl, hcl⟩ := (HLS.out.to HBK2.out).rd.at (k := k) (by rw [List.length_map, HNL.out]; exact hkn)
      have hcl2 := hcl k (by rw [List.length_map, HNL.out]; exact hkn)
      have hkl := HLL.out k hkn
      have hrk := (HLS.out.to HBK2.out).dm k (by rw [List.length_map, HNL.out]; exact hkn)
      unfold lsF at hcl2
      rw [hkl] at hcl2 hrk
      have HIN := zH (fun (c : Nat) => ints_m _ (u.take m) m (dS k).1 aU (dS k).2 c wr hkl HUL.out (by omega) hrk (HRU.out.to HBK2.out))
      have HBR2 := zH (bThen HB.out HBK2.out)
      clear hcl hkl hrk
      by_cases heq : ll (l.map fun z => z.take m) k = u.take m
      · have hde : decide (ll (l.map fun z => z.take m) k = u.take m) = true := decide_eq_true heq
        rw [hde] at HIN
        clear heq hde
        go_wp2_with fail
        refine (HIN.out _).mono ?_
        rintro e w22 ⟨rfl, hb⟩
        have HB22 := zH (bThen HBK2.out hb)
        have hne : ((k : Int) == (nl : Int)) = false := beq_false_of_ne (by omega)
        clear hb hcl2
        go_wp2_with fail
        go_roundw
        case rel => exact ⟨i + 1, u, aU, cU, rfl, by go_num, by omega, HGU, zH (HRU.out.to HB22.out), zH (bThen HBO.out HB22.out)⟩
        case measure => simp [intOf]; omega
      · have hde : decide (ll (l.map fun z => z.take m) k = u.take m) = false := decide_eq_false heq
        have hkj : k < j0 := by
          rcases Nat.lt_or_ge k j0 with h | h
          · exact h
          · have : k = j0 := by omega
            subst this
            exact absurd HJ1.out heq
        rw [hde] at HIN
        clear heq hde
        go_wp2_with fail
        refine (HIN.out _).mono ?_
        rintro e w22 ⟨rfl, hb⟩
        have HB22 := zH (bThen HBK2.out hb)
        clear hb hcl2
        go_wp2_with fail
        go_roundw
        case rel => exact ⟨k + 1, by go_num, by omega, HB22⟩
        case measure => simp [intOf]; omega
    | none =>
      have HNF := zH (fun (a : Option Addr) (c : Nat) (W : World) hr => next_no x t (gi fs i) m a c W HX.out HTT.out hit HM.out HM2.out hff hu hr)
      obtain ⟨hlb, hcb⟩ := out_least HOW.out hif HALL.out HG.out hu
      rw [HNB.out] at hlb hcb
      have HTK : Hid (Reads w (some ⟨bf, of, none⟩) (i + 1) (ints (fs.take (i + 1)))) := zH (by
        have h1 := Reads.take (show Reads w (some ⟨bf, of, none⟩) fs.length (ints fs) from by rw [HN.out]; exact HR0.out) (i + 1)
        have h2 : (fs.take (i + 1)).length = i + 1 := by rw [List.length_take]; omega
        rw [h2] at h1
        exact h1)
      have htl2 : (fs.take (i + 1)).length = i + 1 := by rw [List.length_take]; omega
      clear htl hit hes
      go_upto_region 15 with (fail)
      refine wp_region_tree (by kernel_rfl) (fun w15 hwd => ?_)
      have T := zH hwd
      clear hwd
      refine WTq 0 ?_; apply Exists.intro; refine ⟨fun w1 hb1 => ?_, ?_⟩; (focus (((obtain ⟨-, k0, -⟩ := K0.out.to (T.out.trans hb1)); have hb1 := zH hb1; go_simp); (try (go_bits; try go_simp)); (try (rw [if_pos (by omega)]; try go_simp)); (first | done | (with_reducible rfl) | exact rfl)))
      simp only [Act.put, zzT, zzO, zzS]
      refine WTq 1 ?_; apply Exists.intro; refine ⟨fun w1 hb1 => ?_, ?_⟩; (focus ((have hb1 := zH hb1; go_simp); (try (go_bits; try go_simp)); (try (rw [if_pos (by omega)]; try go_simp)); (first | done | (with_reducible rfl) | exact rfl)))
      simp only [Act.put, zzT, zzO, zzS]
      refine WTq 3 ?_; apply Exists.intro; refine ⟨fun w1 hb1 => ?_, ?_⟩; (focus ((have hb1 := zH hb1; go_simp); (try (go_bits; try go_simp)); (try (rw [if_pos (by omega)]; try go_simp)); (first | done | (with_reducible rfl) | exact rfl)))
      simp only [Act.put, zzT, zzO, zzS]
      refine WTq 4 ?_; apply Exists.intro; refine ⟨fun w1 hb1 => ?_, ?_⟩; (focus ((have hb1 := zH hb1; go_simp); (try (go_bits; try go_simp)); (try (rw [if_pos (by omega)]; try go_simp)); (first | done | (with_reducible rfl) | exact rfl)))
      simp only [Act.put, zzT, zzO, zzS]
      refine WTq 5 ?_; apply Exists.intro; refine ⟨fun w1 hb1 => ?_, ?_⟩; (focus ((have hb1 := zH hb1; go_simp); (try (go_bits; try go_simp)); (try (rw [if_pos (by omega)]; try go_simp)); (first | done | (with_reducible rfl) | exact rfl)))
      simp only [Act.put, zzT, zzO, zzS]
      refine WTq 6 ?_; apply Exists.intro; refine ⟨fun w1 hb1 => ?_, ?_⟩; (focus (((have c1 := ((T.out.trans hb1).cell (p := ⟨bf, of + i, none⟩) hbf2).trans ((HB.out.cell (p := ⟨bf, of + i, none⟩) hbf).trans HCF.out)); have hb1 := zH hb1; go_simp); (try (go_bits; try go_simp)); (try (rw [if_pos (by omega)]; try go_simp)); (first | done | (with_reducible rfl) | exact rfl)))
      simp only [Act.put, zzT, zzO, zzS]
      refine WT_one 2 rfl (by kernel_rfl) ?_
      unfold stepT
      go_wp2_with fail
      refine (HCM.out _ (HRT.out.to T.out)).mono ?_
      rintro e w15e ⟨a15, c15, rfl, hr15, hb⟩
      have HR15 := zH hr15
      have hbd := zH (hb.mono T.out.size)
      replace T := zH (bThen T.out hb)
      clear hb hr15
      go_wp2_with fail
      refine ⟨hbd.out, ?_⟩
      clear hbd
      refine WT_one 7 rfl (by kernel_rfl) ?_
      unfold stepT
      go_wp2_with fail
      refine (HNF.out _ _ _ HR15.out).mono ?_
      rintro e w15f ⟨aU, cU, rfl, hb⟩
      have hbd := zH (hb.mono T.out.size)
      replace T := zH (bThen T.out hb)
      skip
      clear hb HR15
      go_wp2_with fail
      refine ⟨hbd.out, ?_⟩
      clear hbd
      refine WTq 8 ?_; apply Exists.intro; refine ⟨fun w1 hb1 => ?_, ?_⟩; (focus ((have hb1 := zH hb1; go_simp); (try (go_bits; try go_simp)); (try (rw [if_pos (by omega)]; try go_simp)); (first | done | (with_reducible rfl) | exact rfl)))
      simp only [Act.put, zzT, zzO, zzS]
      refine WTq 9 ?_; apply Exists.intro; refine ⟨fun w1 hb1 => ?_, ?_⟩; (focus ((have hb1 := zH hb1; go_simp); (try (go_bits; try go_simp)); (try (rw [if_pos (by omega)]; try go_simp)); (first | done | (with_reducible rfl) | exact rfl)))
      simp only [Act.put, zzT, zzO, zzS]
      refine WTq 10 ?_; apply Exists.intro; refine ⟨fun w1 hb1 => ?_, ?_⟩; (focus ((have hb1 := zH hb1; go_simp); (try (go_bits; try go_simp)); (try (rw [if_pos (by omega)]; try go_simp)); (first | done | (with_reducible rfl) | exact rfl)))
      simp only [Act.put, zzT, zzO, zzS]
      refine WTq 11 ?_; apply Exists.intro; refine ⟨fun w1 hb1 => ?_, ?_⟩; (focus ((have hb1 := zH hb1; go_simp); (try (go_bits; try go_simp)); (try (rw [if_pos (by omega)]; try go_simp)); (first | done | (with_reducible rfl) | exact rfl)))
      simp only [Act.put, zzT, zzO, zzS]
      refine WTq 12 ?_; apply Exists.intro; refine ⟨fun w1 hb1 => ?_, ?_⟩; (focus ((have hb1 := zH hb1; go_simp); (try (go_bits; try go_simp)); (try (rw [if_pos (by omega)]; try go_simp)); (first | done | (with_reducible rfl) | exact rfl)))
      simp only [Act.put, zzT, zzO, zzS]
      refine WT_done (by kernel_rfl) ?_
      have hb := T.out
      replace K0 := zH (K0.out.to hb)
      replace HB := zH (bThen HB.out hb)
      replace HLS := zH (HLS.out.to hb)
      replace HRW := zH (HRW.out.to hb)
      replace HBO := zH (bThen HBO.out hb)
      clear T hb hK0 hbf2
      have hcap2 : ((i : Int) + 1) ≤ (cap : Int) := by omega
      have hge : decide ((nb : Int) ≤ ((i : Int) + 1)) = true := decide_eq_true (by omega)
      by_cases hlt2 : nb < i + 1
      · have hgt : decide ((nb : Int) < ((i : Int) + 1)) = true := decide_eq_true (by omega)
        go_wp2_with fail
        go_ret
        exact ⟨rfl, HB.out⟩
      · have hgt : decide ((nb : Int) < ((i : Int) + 1)) = false := decide_eq_false (by omega)
        have hcb2 : ¬ cmpL (fs.take (i + 1)) ws < 0 := by have := hcb.resolve_left hlt2; omega
        have HBF := zH (fun (cx cy : Nat) (W : World) h1 h2 => Before_any (fs.take (i + 1)) ws (some ⟨bf, of, none⟩) (some aW) cx cy W (by omega) (by rw [HNB.out]; omega) h1 h2)
        rw [decide_eq_false hcb2, htl2, HNB.out] at HBF
        go_wp2_with fail
        refine (HBF.out _ _ _ (HTK.out.to HB.out) HRW.out).mono ?_
        rintro e w20 ⟨rfl, hb⟩
        replace HB := zH (bThen HB.out hb)
        clear hb
        go_wp2_with fail
        go_ret
        exact ⟨rfl, HB.out⟩
  · obtain rfl : n = i := by omega
    by_cases h60 : nb ≤ 60
    · have hd60 : decide ((60 : Int) < (nb : Int)) = false := decide_eq_false (by omega)
      have HCB := zH (fun W hr => copy_m ws nb (some aW) cW W HNB.out (by omega) hr)
      have HRO := zH (fun (a : Option Addr) (c : Nat) (W : World) hr => run_of_out x ws nb a c W HX.out HOW.out HNB.out h60 hr)
      have hK0 := K0.out.1
      go_upto_region 30 with (fail)
      refine wp_region_mix [2, 3] (by kernel_rfl) (by kernel_rfl) (fun _ _ _ _ _ h => h) (fun w30 hwd => ?_)
      have T := zH hwd
      clear hwd
      repeat (first | (refine WM_no (by rfl) (by rfl) ?_; (simp only [Act.put, zzT, zzO, zzS])) | (refine WM_yes (by rfl) (by rfl) ?_; apply Exists.intro; refine ⟨fun w1 hb1 => ?_, ?_⟩; (focus (((obtain ⟨-, k0, -⟩ := (K0.out.to T.out).below hb1 hK0); have hb1 := zH hb1; go_simp); (try (go_bits; try go_simp)); (try (rw [if_pos (by omega)]; try go_simp)); (first | done | (with_reducible rfl) | exact rfl))); (simp only [Act.put, zzT, zzO, zzS])))
      refine WM_x (by rfl) ?_
      go_wp2_with fail
      refine (HCB.out _ (HRW.out.to T.out)).mono ?_
      rintro e w30e ⟨a30, c30, rfl, hl7, hb⟩
      have HL7 := zH hl7
      have hbd := zH (hb.mono T.out.size)
      replace T := zH (bThen T.out hb)
      clear hb hl7
      go_wp2_with fail
      refine ⟨hbd.out, ?_⟩
      clear hbd
      repeat (first | (refine WM_no (by rfl) (by rfl) ?_; (simp only [Act.put, zzT, zzO, zzS])) | (refine WM_yes (by rfl) (by rfl) ?_; apply Exists.intro; refine ⟨fun w1 hb1 => ?_, ?_⟩; (focus (((obtain ⟨-, k0, -⟩ := (K0.out.to T.out).below hb1 hK0); have hb1 := zH hb1; go_simp); (try (go_bits; try go_simp)); (try (rw [if_pos (by omega)]; try go_simp)); (first | done | (with_reducible rfl) | exact rfl))); (simp only [Act.put, zzT, zzO, zzS])))
      refine WM_x (by rfl) ?_
      go_wp2_with fail
      refine (HRO.out _ _ _ HL7.out).mono ?_
      rintro e w30f ⟨aR, cR, r, rfl, hrr, hrun, hb⟩
      have HRR := zH hrr
      have HRN := zH hrun
      have hbd := zH (hb.mono T.out.size)
      replace T := zH (bThen T.out hb)
      clear hb HL7 hrr hrun
      obtain ⟨rn, hrn⟩ : ∃ q, nb + 1 = q := ⟨_, rfl⟩
      rw [hrn] at HRR ⊢
      go_wp2_with fail
      refine ⟨hbd.out, ?_⟩
      clear hbd
      repeat (first | (refine WM_no (by rfl) (by rfl) ?_; (simp only [Act.put, zzT, zzO, zzS])) | (refine WM_yes (by rfl) (by rfl) ?_; apply Exists.intro; refine ⟨fun w1 hb1 => ?_, ?_⟩; (focus ((have hb1 := zH hb1; go_simp); (try (go_bits; try go_simp)); (try (rw [if_pos (by omega)]; try go_simp)); (first | done | (with_reducible rfl) | exact rfl))); (simp only [Act.put, zzT, zzO, zzS])))
      refine WM_nil ?_
      have hb := T.out
      replace K0 := zH (K0.out.to hb)
      replace HB := zH (bThen HB.out hb)
      clear T hb hK0
      have hq : ((rn : Int) != (nb : Int) + 1) = false := by simp; omega
      have HRQ := zH hrn
      clear hrn
      go_wp2_with fail
      go_loopw [21] (fun s21 wr => ∃ i2 : Nat, s21 = .int .i64 i2 ∧ i2 ≤ rn ∧ Hid (Below w30f.heap.size w30f wr)) (fun s21 _ => rn + 1 - (intOf s21).toNat)
      case atStart => exact ⟨0, rfl, Nat.zero_le _, zH (bSelf _)⟩
      obtain ⟨i2, rfl, hi2, HB2⟩ := hrel
      obtain ⟨wp, hwp⟩ : ∃ wp, wp = wr := ⟨_, rfl⟩
      subst hwp
      by_cases hl2 : i2 < rn
      · obtain ⟨br, or, rfl, hbr, hcr⟩ := HRR.out.at hl2
        have HCR : Hid (w30f.cell? ⟨br, or + i2, none⟩ = some (.int .i64 (gi r i2))) := zH (hcr i2 hl2)
        have hic2 : (i2 : Int) ≤ 61 := by have := HRQ.out; omega
        have hsm : -200000 ≤ gi r i2 ∧ gi r i2 ≤ 200000 := by
          have h1 := HRQ.out
          by_cases h : i2 < nb
          · have := HRN.out.bd i2 h; omega
          · have : i2 = nb := by omega
            rw [this]; exact HRN.out.sm
        have HSZ := zH (fun W => Size_any (gi r i2) W (by omega) (by omega))
        have HDC : Hid (decide (x.b < sizeI (gi r i2)) = ((i2 : Int) == (nb : Int))) := zH (by
          have h1 := HRQ.out
          unfold sizeI
          by_cases h : i2 < nb
          · have h2 := HRN.out.bd i2 h
            rw [decide_eq_false (by omega), beq_false_of_ne (by omega)]
          · have h3 : i2 = nb := by omega
            have h2 := HRN.out.out
            rw [← h3] at h2
            rw [decide_eq_true (by omega), h3]; simp)
        obtain ⟨sz, hsz⟩ : ∃ q, sizeI (gi r i2) = q := ⟨_, rfl⟩
        rw [hsz] at HSZ HDC
        obtain ⟨tb, htb⟩ : ∃ q, ((i2 : Int) == (nb : Int)) = q := ⟨_, rfl⟩
        have hdc := HDC.out
        rw [htb] at hdc
        have hbr2 : br < wp.heap.size := by have := HB2.out.size; omega
        have HK02 := zH (K0.out.to HB2.out)
        clear hcr hsm hsz
        go_upto_region 36 with (fail)
        refine wp_region_tree (by kernel_rfl) (fun w36 hwd => ?_)
        have T := zH hwd
        clear hwd
        refine WTq 0 ?_; apply Exists.intro; refine ⟨fun w1 hb1 => ?_, ?_⟩; (focus ((have hb1 := zH hb1; go_simp); (try (go_bits; try go_simp)); (try (rw [if_pos (by omega)]; try go_simp)); (first | done | (with_reducible rfl) | exact rfl)))
        simp only [Act.put, zzT, zzO, zzS]
        refine WTq 1 ?_; apply Exists.intro; refine ⟨fun w1 hb1 => ?_, ?_⟩; (focus ((have hb1 := zH hb1; go_simp); (try (go_bits; try go_simp)); (try (rw [if_pos (by omega)]; try go_simp)); (first | done | (with_reducible rfl) | exact rfl)))
        simp only [Act.put, zzT, zzO, zzS]
        refine WTq 2 ?_; apply Exists.intro; refine ⟨fun w1 hb1 => ?_, ?_⟩; (focus ((have hb1 := zH hb1; go_simp); (try (go_bits; try go_simp)); (try (rw [if_pos (by omega)]; try go_simp)); (first | done | (with_reducible rfl) | exact rfl)))
        simp only [Act.put, zzT, zzO, zzS]
        refine WTq 3 ?_; apply Exists.intro; refine ⟨fun w1 hb1 => ?_, ?_⟩; (focus (((have c1 := ((T.out.trans hb1).cell (p := ⟨br, or + i2, none⟩) hbr2).trans ((HB2.out.cell (p := ⟨br, or + i2, none⟩) hbr).trans HCR.out)); have hb1 := zH hb1; go_simp); (try (go_bits; try go_simp)); (try (rw [if_pos (by omega)]; try go_simp)); (first | done | (with_reducible rfl) | exact rfl)))
        simp only [Act.put, zzT, zzO, zzS]
        refine WTq 5 ?_; apply Exists.intro; refine ⟨fun w1 hb1 => ?_, ?_⟩; (focus ((have hb1 := zH hb1; go_simp); (try (go_bits; try go_simp)); (try (rw [if_pos (by omega)]; try go_simp)); (first | done | (with_reducible rfl) | exact rfl)))
        simp only [Act.put, zzT, zzO, zzS]
        refine WTq 6 ?_; apply Exists.intro; refine ⟨fun w1 hb1 => ?_, ?_⟩; (focus (((obtain ⟨-, k0, -⟩ := HK02.out.to (T.out.trans hb1)); have hb1 := zH hb1; go_simp); (try (go_bits; try go_simp)); (try (rw [if_pos (by omega)]; try go_simp)); (first | done | (with_reducible rfl) | exact rfl)))
        simp only [Act.put, zzT, zzO, zzS]
        refine WTq 8 ?_; apply Exists.intro; refine ⟨fun w1 hb1 => ?_, ?_⟩; (focus ((have hb1 := zH hb1; go_simp); (try (go_bits; try go_simp)); (try (rw [if_pos (by omega)]; try go_simp)); (first | done | (with_reducible rfl) | exact rfl)))
        simp only [Act.put, zzT, zzO, zzS]
        refine WTq 9 ?_; apply Exists.intro; refine ⟨fun w1 hb1 => ?_, ?_⟩; (focus ((have hb1 := zH hb1; go_simp); (try (go_bits; try go_simp)); (try (rw [if_pos (by omega)]; try go_simp)); (first | done | (with_reducible rfl) | exact rfl)))
        simp only [Act.put, zzT, zzO, zzS]
        refine WTq 10 ?_; apply Exists.intro; refine ⟨fun w1 hb1 => ?_, ?_⟩; (focus ((have hb1 := zH hb1; go_simp); (try (go_bits; try go_simp)); (try (rw [if_pos (by omega)]; try go_simp)); (first | done | (with_reducible rfl) | exact rfl)))
        simp only [Act.put, zzT, zzO, zzS]
        refine WTq 11 ?_; apply Exists.intro; refine ⟨fun w1 hb1 => ?_, ?_⟩; (focus ((have hb1 := zH hb1; go_simp); (try (go_bits; try go_simp)); (try (rw [if_pos (by omega)]; try go_simp)); (first | done | (with_reducible rfl) | exact rfl)))
        simp only [Act.put, zzT, zzO, zzS]
        refine WT_one 4 rfl (by kernel_rfl) ?_
        unfold stepT
        go_wp2_with fail
        refine (HSZ.out _).mono ?_
        rintro e w' ⟨rfl, rfl⟩
        go_wp2_with fail
        refine ⟨Below.refl _ _, ?_⟩
        refine WTq 7 ?_; apply Exists.intro; refine ⟨fun w1 hb1 => ?_, ?_⟩; (focus ((have hb1 := zH hb1; go_simp); (try (go_bits; try go_simp)); (try (rw [if_pos (by omega)]; try go_simp)); (first | done | (with_reducible rfl) | exact rfl)))
        simp only [Act.put, zzT, zzO, zzS]
        refine WTq 12 ?_; apply Exists.intro; refine ⟨fun w1 hb1 => ?_, ?_⟩; (focus ((have hb1 := zH hb1; go_simp); (try (go_bits; try go_simp)); (try (rw [if_pos (by omega)]; try go_simp)); (first | done | (with_reducible rfl) | exact rfl)))
        simp only [Act.put, zzT, zzO, zzS]
        refine WT_done (by kernel_rfl) ?_
        have HB3 := zH (bThen HB2.out T.out)
        have hne : (tb != tb) = false := by cases tb <;> rfl
        clear T
        go_wp2_with fail
        go_roundw
        case rel => exact ⟨i2 + 1, by go_num, by omega, HB3⟩
        case measure => simp [intOf]; omega
      · obtain rfl : rn = i2 := by omega
        go_wp2_with fail
        go_ret
        exact ⟨rfl, bThen HB.out HB2.out⟩
    · have hd60 : decide ((60 : Int) < (nb : Int)) = true := decide_eq_true (by omega)
      go_wp2_with fail
      go_ret
      exact ⟨rfl, HB.out⟩
end
section
set_option maxRecDepth 100000
set_option maxHeartbeats 4000000
open Go.RowKit

theorem Held_e1 (x : HT) (zs : List Int) (a : Option Addr) (cap : Nat) (w : World) (hlen : zs.length ≤ maxLen) (hf : ¬ zs.length ≤ 60) :
    Calls Try.prog 3 #[.agg x.cells, .slice a zs.length cap] w fun e w' => e = .returned (.bool true) ∧ Below w.heap.size w w' := by
  unfold maxLen at hlen
  go_enter Try.func3, Try.ntmps3
  go_wp2_with fail
  refine (awake_any _).mono ?_
  rintro e w1 ⟨rfl, hb⟩
  have HB := zH (bThen (bAlloc (bSelf w) (.cells x.cells 25)) hb)
  clear hb
  have hf1 : decide ((60 : Int) < (zs.length : Int)) = true := decide_eq_true (by omega)
  go_wp2_with fail
  go_ret
  exact ⟨rfl, HB.out⟩

theorem Held_e2 (x : HT) (zs : List Int) (a : Option Addr) (cap : Nat) (w : World) (hfew : zs.length ≤ 60) (hE : testE x ≠ 0) (hr : Reads w a zs.length (ints zs)) :
    Calls Try.prog 3 #[.agg x.cells, .slice a zs.length cap] w fun e w' => e = .returned (.bool true) ∧ Below w.heap.size w w' := by
  have HR0 := zH hr
  clear hr
  have hf1 : decide ((60 : Int) < (zs.length : Int)) = false := decide_eq_false (by omega)
  have HTE := zH (fun (W : World) => TestErr_any x W)
  obtain ⟨te, teE⟩ : ∃ v, testE x = v := ⟨_, rfl⟩
  rw [teE] at HTE hE
  clear teE
  have hte1 : (te != 0) = true := by simpa using hE
  go_enter Try.func3, Try.ntmps3
  go_wp2_with fail
  refine (awake_any _).mono ?_
  rintro e w1 ⟨rfl, hb⟩
  have HB := zH (bThen (bAlloc (bSelf w) (.cells x.cells 25)) hb)
  have K0 := zH ((Blk.new w x.cells 25).to hb)
  have HR := zH ((HR0.out.alloc (.cells x.cells 25)).to hb)
  clear hb
  obtain ⟨-, k0, -⟩ := K0.out
  go_wp2_with fail
  refine (HTE.out _).mono ?_
  rintro e w2 ⟨rfl, hb⟩
  replace K0 := zH (K0.out.to hb)
  replace HB := zH (bThen HB.out hb)
  replace HR := zH (HR.out.to hb)
  clear hb k0
  go_wp2_with fail
  go_ret
  exact ⟨rfl, HB.out⟩

theorem Held_e3 (x : HT) (zs : List Int) (a : Option Addr) (cap : Nat) (w : World) (hfew : zs.length ≤ 60) (hT : testE x = 0) (hE : forcesE x zs ≠ 0) (hr : Reads w a zs.length (ints zs)) :
    Calls Try.prog 3 #[.agg x.cells, .slice a zs.length cap] w fun e w' => e = .returned (.bool true) ∧ Below w.heap.size w w' := by
  have HR0 := zH hr
  clear hr
  have hf1 : decide ((60 : Int) < (zs.length : Int)) = false := decide_eq_false (by omega)
  have HTE := zH (fun (W : World) => TestErr_any x W)
  rw [hT] at HTE
  have HFE := zH (fun (W : World) h => ForcesErr_any x zs a cap W (by unfold maxLen; omega) h)
  obtain ⟨fe, feE⟩ : ∃ v, forcesE x zs = v := ⟨_, rfl⟩
  rw [feE] at HFE hE
  clear feE
  have hfe1 : (fe != 0) = true := by simpa using hE
  go_enter Try.func3, Try.ntmps3
  go_wp2_with fail
  refine (awake_any _).mono ?_
  rintro e w1 ⟨rfl, hb⟩
  have HB := zH (bThen (bAlloc (bSelf w) (.cells x.cells 25)) hb)
  have K0 := zH ((Blk.new w x.cells 25).to hb)
  have HR := zH ((HR0.out.alloc (.cells x.cells 25)).to hb)
  clear hb
  obtain ⟨-, k0, -⟩ := K0.out
  go_wp2_with fail
  refine (HTE.out _).mono ?_
  rintro e w2 ⟨rfl, hb⟩
  replace K0 := zH (K0.out.to hb)
  replace HB := zH (bThen HB.out hb)
  replace HR := zH (HR.out.to hb)
  clear hb k0
  obtain ⟨-, k0, -⟩ := K0.out
  go_wp2_with fail
  refine (HFE.out _ HR.out).mono ?_
  rintro e w3 ⟨rfl, hb⟩
  replace K0 := zH (K0.out.to hb)
  replace HB := zH (bThen HB.out hb)
  replace HR := zH (HR.out.to hb)
  clear hb k0
  go_wp2_with fail
  go_ret
  exact ⟨rfl, HB.out⟩

theorem HybridHeld_any (x : HT) (zs : List Int) (a : Option Addr) (cap : Nat) (w : World) (hlen : zs.length ≤ maxLen) (hcap : zs.length ≤ cap) (hr : Reads w a zs.length (ints zs)) :
    Calls Try.prog 3 #[.agg x.cells, .slice a zs.length cap] w fun e w' => e = .returned (.bool true) ∧ Below w.heap.size w w' := by
  by_cases hfew : zs.length ≤ 60
  · by_cases hT : testE x = 0
    · by_cases hF : forcesE x zs = 0
      · by_cases hh : HldQ (nxH x) (rngL (x.lo, x.hi)) [0, 0, 0, 0]
        · exact HybridHeld_held x zs a cap w (testE_zero hT) hT hF hr hh
        · exact HybridHeld_brk x zs a cap w (testE_zero hT) hT hF hcap hr hh
      · exact Held_e3 x zs a cap w hfew hT hF hr
    · exact Held_e2 x zs a cap w hfew hT hr
  · exact Held_e1 x zs a cap w hlen hfew
end
end Go.Proofs.Ytfdlhhinomjakaa
