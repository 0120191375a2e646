/-
  Texts of this claim, in their build order: OM5.
-/
import Derived.Test.YtbpcapcgbnbknaaGreatOne32
import Derived.WalkSpells

namespace Go.Proofs.YtbpcapcgbnbknaaGreat
section
open Go.RowKit
attribute [local go_sem] Oper.semAt_some

section
variable {P : Program} {w : World}
/-- append onto a slice without room, inside a fence: a new row. -/
theorem wpListIn_grows {F : Fence} {d : Nat} {ops : Array Oper} {rest : List Oper} {o : Oper} {b : Act} {Q : Exit → Act → World → Prop} {t e : TypeId} {z : Value} {size bytes : Nat} (rt : RowTy P t e size bytes z)
    (hg : o.guard = none) (s x : Operand) (hop : o.op = Op.call { callee := Callee.builtin Builtin.append, args := #[s, x], argTypes := #[t, t] })
    (ao : Option Addr) (n cap : Nat) (olds : List Value) (hs : b.eval s = .slice ao n cap) (hnone : ao = none → n = 0 ∧ cap = 0) (hlo : olds.length = n * size) (holds : ∀ b, ao = some b → ∀ j u, olds[j]? = some u → w.cell? (b.add j) = some u)
    (ad : Addr) (m c : Nat) (news : List Value) (hx : b.eval x = .slice (some ad) m c) (hn : news.length = m * size) (hc : ∀ j u, news[j]? = some u → w.cell? (ad.add j) = some u) (h1c : ∀ u ∈ news, u.oneCell' = true)
    (hfull : cap < n + m) (b1 : n + m ≤ maxLen) (b2 : (n + m) * bytes ≤ 140737488355328)
    (hK : ∀ v' w', w'.ownsRow w.heap.size e size v' (n + m) (olds ++ news) → w.grownBy w' none → wpListIn F d P ops Q rest (b.put o.dst v') w') :
    wpListIn F d P ops Q (o :: rest) b w := by
  refine wpListIn_plain hg fun K hK' => ?_
  obtain ⟨i, h2, h3, h4, h5⟩ := rt.i
  unfold Oper.wpIn
  refine ⟨by simp [Oper.about, hop, resolve, Target.leads, Sem.run_pure], ?_⟩
  rw [Oper.semAt_plain F _ _ (by rw [hop]; intro c hc'; cases hc')]
  cases ao with
  | some b' =>
    obtain ⟨v', w', hrun, r1, r2⟩ := run_append_arg_grows (P := P) w t o.type e i z size bytes rt.u h2 h3 h4 h5 rt.zs rt.pos b' n cap olds hlo (holds b' rfl) ad m c news hn hc hfull b1 b2
    simp [execOp, hop, resolve, invoke, builtin, hs, hx, hrun, Result.andThen]
    exact hK' _ _ (hK v' w' r1 r2)
  | none =>
    obtain ⟨rfl, rfl⟩ := hnone rfl
    obtain rfl : olds = [] := List.eq_nil_of_length_eq_zero (by simpa using hlo)
    obtain ⟨v', w', hrun, r1, r2, _⟩ := run_append_own (P := P) w w.heap.size t o.type e i z size bytes rt.u h2 h3 h4 h5 rt.zs rt.pos (.slice none 0 0) 0 [] (World.ownsRow_nil w _ e size) ad m c news hn hc h1c b1 b2 (Nat.le_refl _)
    simp [execOp, hop, resolve, invoke, builtin, hs, hx, hrun, Result.andThen]
    exact hK' _ _ (hK v' w' r1 r2)
end

theorem ticks_any (p : Plt) (s : OSt) (a al ac : Option Addr) (cap cl n cc : Nat) (w : World) :
    Calls Tryz.prog 90 #[.agg (plL p a cap al cl), .agg #[.int .i64 s.1, .bool s.2], .slice ac n cc] w fun e w' => e = .returned (.func (.func 132) #[] #[.pointer (some ⟨w.heap.size + 1, 0, none⟩), .pointer (some ⟨w.heap.size + 1 + 1, 0, none⟩), .pointer (some ⟨w.heap.size, 0, none⟩)]) ∧
      ((w.alloc (.cells (plL p a cap al cl) 145)).alloc (.cells #[.int .i64 s.1, .bool s.2] 53)).alloc (.cells #[.slice ac n cc] 54) = w' := by
  go_enter Tryz.func90, Tryz.ntmps90
  go_wp2_with fail
  go_ret
  exact ⟨rfl, rfl⟩

/-- What the iterator reads. -/
structure TkF (p : Plt) (s : OSt) (cls : List (Int × Int)) (a al ac : Option Addr) (cap cl cc bs bc bp : Nat) (W : World) : Prop where
  S : Blk W bs #[.int .i64 s.1, .bool s.2]
  C : Blk W bc #[.slice ac cls.length cc]
  P : Blk W bp (plL p a cap al cl)
  RL : Reads W al (p.pts.length * 2) (fracs p.pts)
  RC : Reads W ac (cls.length * 2) (fracs cls)
def TkR (p : Plt) (cls : List (Int × Int)) (al ac : Option Addr) (bs bc bp : Nat) (k : Nat) : Prop :=
  k = bs ∨ k = bc ∨ k = bp ∨ (0 < cls.length ∧ ∃ off, ac = some ⟨k, off, none⟩) ∨ (0 < p.pts.length ∧ ∃ off, al = some ⟨k, off, none⟩)
theorem TkF.to {p : Plt} {s : OSt} {cls : List (Int × Int)} {a al ac : Option Addr} {cap cl cc bs bc bp : Nat} {W W' : World} (h : TkF p s cls a al ac cap cl cc bs bc bp W) (hb : Below W.heap.size W W') : TkF p s cls a al ac cap cl cc bs bc bp W' :=
  ⟨h.S.to hb, h.C.to hb, h.P.to hb, h.RL.to hb, h.RC.to hb⟩
theorem TkF.lt {p : Plt} {s : OSt} {cls : List (Int × Int)} {a al ac : Option Addr} {cap cl cc bs bc bp : Nat} {W : World} (h : TkF p s cls a al ac cap cl cc bs bc bp W) {k : Nat} (hk : TkR p cls al ac bs bc bp k) : k < W.heap.size := by
  rcases hk with rfl | rfl | rfl | ⟨h0, off, rfl⟩ | ⟨h0, off, rfl⟩
  · exact h.S.1
  · exact h.C.1
  · exact h.P.1
  · obtain ⟨b, o, e, hb, -⟩ := h.RC.at (k := 0) (by omega)
    cases e; exact hb
  · obtain ⟨b, o, e, hb, -⟩ := h.RL.at (k := 0) (by omega)
    cases e; exact hb
theorem TkF.upd {p : Plt} {s : OSt} {cls : List (Int × Int)} {a al ac : Option Addr} {cap cl cc bs bc bp : Nat} {W W' : World} {M M' : Nat → Prop} (h : TkF p s cls a al ac cap cl cc bs bc bp W) (hu : Upd M M' W W') (hM : ∀ k, M k → ¬ TkR p cls al ac bs bc bp k) : TkF p s cls a al ac cap cl cc bs bc bp W' := by
  have key : ∀ {q : Option Addr} {m : Nat} {f : Nat → Value}, (0 < m → ∀ b off, q = some ⟨b, off, none⟩ → TkR p cls al ac bs bc bp b) → Reads W q m f → Reads W' q m f := fun hq hr => by
    rcases hr with hr | ⟨b, off, ha, hlt, hc⟩
    · exact .inl hr
    · rename_i q m f
      by_cases hm : m = 0
      · exact .inl hm
      · exact Reads.upd (.inr ⟨b, off, ha, hlt, hc⟩) hu (fun b' off' e hk => hM _ hk (hq (by omega) b' off' e))
  exact ⟨h.S.upd hu (fun hk => hM _ hk (.inl rfl)), h.C.upd hu (fun hk => hM _ hk (.inr (.inl rfl))), h.P.upd hu (fun hk => hM _ hk (.inr (.inr (.inl rfl)))),
    key (fun hm b off e => .inr (.inr (.inr (.inr ⟨by omega, off, e⟩)))) h.RL, key (fun hm b off e => .inr (.inr (.inr (.inl ⟨by omega, off, e⟩)))) h.RC⟩

/-- One demand, case by case. -/
theorem tkD_no {p : Plt} {a : OSt × List Int} {T : Tks} {n : Int} (h : nxtA p a.1 n = none) (he : T.emp = none) : tkD p a T n = ⟨T.aft, some (a.2 ++ [n])⟩ := by
  unfold tkD; rw [h, he]
theorem tkD_no2 {p : Plt} {a : OSt × List Int} {T : Tks} {n : Int} {e : List Int} (h : nxtA p a.1 n = none) (he : T.emp = some e) : tkD p a T n = T := by
  unfold tkD; rw [h, he]; obtain ⟨x, y⟩ := T; dsimp only at he ⊢; rw [he]
theorem tkD_old {p : Plt} {a : OSt × List Int} {T : Tks} {n : Int} {t : OSt} (h : nxtA p a.1 n = some t) (hk : T.aft.any (fun x => x.1 == t) = true) : tkD p a T n = T := by
  unfold tkD; rw [h]; dsimp only; rw [if_pos hk]
theorem tkD_new {p : Plt} {a : OSt × List Int} {T : Tks} {n : Int} {t : OSt} (h : nxtA p a.1 n = some t) (hk : T.aft.any (fun x => x.1 == t) = false) : tkD p a T n = ⟨T.aft ++ [(t, a.2 ++ [n])], T.emp⟩ := by
  unfold tkD; rw [h]; dsimp only; rw [if_neg (by rw [hk]; simp)]
theorem rngL_len (r : Int × Int) : (rngL r).length = (r.2 - r.1 + 1).toNat := by unfold rngL; simp
theorem rngL_take {r : Int × Int} {i : Nat} (h : i < (rngL r).length) : (rngL r).take (i + 1) = (rngL r).take i ++ [r.1 + (i : Int)] := by
  have e : (rngL r)[i] = r.1 + (i : Int) := by simp only [rngL, List.getElem_map, List.getElem_range]
  rw [List.take_succ_eq_append_getElem h, e]
theorem fold_take {p : Plt} {r : Int × Int} {a : OSt × List Int} {T0 : Tks} {i : Nat} (h : i < (rngL r).length) : ((rngL r).take (i + 1)).foldl (tkD p a) T0 = tkD p a (((rngL r).take i).foldl (tkD p a) T0) (r.1 + (i : Int)) := by
  rw [rngL_take h, List.foldl_append]; rfl
theorem fold_now {p : Plt} {r : Int × Int} {now : List (OSt × List Int)} {j : Nat} (h : j < now.length) : (now.take (j + 1)).foldl (tkR p r) ⟨[], none⟩ = (rngL r).foldl (tkD p (ag now j)) ((now.take j).foldl (tkR p r) ⟨[], none⟩) := by
  rw [List.take_succ_eq_append_getElem h, List.foldl_append, ag_lt h]; rfl
end
end Go.Proofs.YtbpcapcgbnbknaaGreat
