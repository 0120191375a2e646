/-
  Texts of this claim, in their build order: OM13 OM19 OM14 OM16.
-/
import Derived.Test.YtjfedpblkejmkaaGreatBot29
import Derived.Test.YtjfedpblkejmkaaGreatBot24
import Derived.Test.YtjfedpblkejmkaaGreatBot25
import Derived.Test.YtjfedpblkejmkaaGreatBot21
import Derived.Test.YtjfedpblkejmkaaGreatBot22
import Derived.Test.YtjfedpblkejmkaaGreatBot0

namespace Go.Proofs.YtjfedpblkejmkaaGreat
section
open Go.RowKit
attribute [local go_sem] Oper.semAt_some

set_option maxHeartbeats 6400000 in
set_option maxRecDepth 100000 in
theorem judge_any (p : Plt) (s : OSt) (r : Int × Int) (lim : Int) (S : OSt → Bool) (a al : Option Addr) (cap cl bm nm : Nat) (w : World) (hp : PltOk p) (hs : StOk p s) (hr : 0 ≤ r.1 ∧ r.2 ≤ 50 ∧ r.1 ≤ r.2) (hlim : Nin lim)
    (hrl : Reads w al (p.pts.length * 2) (fracs p.pts)) (hset : SetW w bm nm S) :
    Calls Tryz.prog 124 #[.agg (plL p a cap al cl), .agg #[.int .i64 s.1, .bool s.2], .agg #[.int .i64 r.1, .int .i64 r.2], .int .i64 lim, .map (some bm)] w fun e w' => e = .returned (.int .i64 (jdg p r lim s S)) ∧ Below w.heap.size w w' := by
  have HPR := zH (fun W (hb : Below w.heap.size w W) => pressure_any p s.1 a al cap cl W (OnOk.of_pts hp.pts hs.1 hs.2) (hrl.to hb))
  have HQ := QOk.of_pts hp.pts hs.1 hs.2
  have HBL := zH (fun W => oBelow_any (prQ p.pts s.1) lim W ⟨by have := HQ.n0; omega, by have := HQ.n1; omega⟩ ⟨by have := HQ.d0; omega, by have := HQ.d1; omega⟩ hlim)
  have HNX := zH (fun W (hb : Below w.heap.size w W) d (hd : 0 ≤ d ∧ d ≤ 50) => next_any' p s d a al cap cl W hp hs hd (hrl.to hb))
  have HSW := zH (fun d => (show StW ((nxtA p s d).getD (0, false)) from by
    cases h : nxtA p s d with
    | none => exact ⟨by decide, by decide⟩
    | some t =>
      have h1 := nxtA_ok h
      have h2 := cap_le hp
      exact ⟨by have := h1.1; show (-9223372036854775808 : Int) ≤ t.1; omega, by have := h1.2; show t.1 ≤ (9223372036854775807 : Int); omega⟩))
  have HJ : Hid (jdg p r lim s S = if lessQ (prQ p.pts s.1) (lim, 1) then 22 else if (nxtA p s r.2).isNone then 22 else if (rngL r).all (fun n => S ((nxtA p s n).getD (0, false))) then 0 else 21) := zH rfl
  obtain ⟨j, hj⟩ : ∃ j, jdg p r lim s S = j := ⟨_, rfl⟩
  obtain ⟨b1, hb1⟩ : ∃ b, lessQ (prQ p.pts s.1) (lim, 1) = b := ⟨_, rfl⟩
  obtain ⟨⟨q1, q2⟩, hq⟩ : ∃ b, prQ p.pts s.1 = b := ⟨_, rfl⟩
  rw [hj] at HJ ⊢
  rw [hb1] at HJ HBL
  rw [hq] at HPR HBL
  have HS := zH hset
  have HP := zH hp
  clear hj hb1 hq HQ hlim hset hrl hs hp
  obtain ⟨s1, sr⟩ := s
  obtain ⟨lo, hi⟩ := r
  dsimp only at HJ hr HPR ⊢
  obtain ⟨r1, r2, r3⟩ := hr
  go_enter Tryz.func124, Tryz.ntmps124
  go_wp2_with fail
  obtain ⟨W, hW⟩ : ∃ W, ((w.alloc (.cells (plL p a cap al cl) 170)).alloc (.cells #[.int .i64 s1, .bool sr] 46)).alloc (.cells #[.int .i64 lo, .int .i64 hi] 25) = W := ⟨_, rfl⟩
  rw [hW]
  have K5 : Hid (Blk W w.heap.size (plL p a cap al cl)) := by subst hW; exact zH (((Blk.new _ _ _).alloc _).alloc _)
  have K6 : Hid (Blk W (w.heap.size + 1) #[.int .i64 s1, .bool sr]) := by subst hW; exact zH ((Blk.newAt _ _ _ (by simp)).alloc _)
  have K7 : Hid (Blk W (w.heap.size + 1 + 1) #[.int .i64 lo, .int .i64 hi]) := by subst hW; exact zH (Blk.newAt _ _ _ (by simp))
  have HB : Hid (Below w.heap.size w W) := by subst hW; exact zH (bAlloc (bAlloc (bAlloc (bSelf w) _) _) _)
  have hsz : w.heap.size + 1 + 1 + 1 = W.heap.size := by subst hW; simp
  have HSZ := zH hsz
  clear hW hsz
  refine (HPR.out _ HB.out).mono ?_
  rintro e w1 ⟨rfl, hb⟩
  have HB1 := zH hb
  clear hb
  go_wp2_with fail
  refine (HBL.out _).mono ?_
  rintro e w2 ⟨rfl, hb⟩
  have HB2 : Hid (Below W.heap.size W w2) := zH (bThen HB1.out hb)
  clear hb HB1
  cases b1 with
  | true =>
    go_wp2_with fail
    go_ret
    exact ⟨ret_int (by rw [HJ.out]; rfl), bThen HB.out HB2.out⟩
  | false =>
    obtain ⟨-, k5, -⟩ := K5.out.to HB2.out
    obtain ⟨-, k6, -⟩ := K6.out.to HB2.out
    obtain ⟨-, k7, -⟩ := K7.out.to HB2.out
    go_wp2_with fail
    refine (HNX.out _ (bThen HB.out HB2.out) hi ⟨by omega, r2⟩).mono ?_
    rintro e w3 ⟨rfl, hb⟩
    have HB3 : Hid (Below W.heap.size W w3) := zH (bThen HB2.out hb)
    clear hb HB2 k5 k6 k7
    obtain ⟨⟨t1, t2⟩, ht⟩ : ∃ t, (nxtA p (s1, sr) hi).getD (0, false) = t := ⟨_, rfl⟩
    rw [ht]
    clear ht
    cases hnh : nxtA p (s1, sr) hi with
    | none =>
      have HNH := zH hnh
      clear hnh
      go_wp2_with fail
      go_ret
      exact ⟨ret_int (by rw [HJ.out, HNH.out]; rfl), bAlloc (bThen HB.out HB3.out) _⟩
    | some th =>
      have HNH := zH hnh
      clear hnh
      have HB4 := zH (fun o => bAlloc HB3.out o)
      have k7 : ∀ (o1 : Obj) (o : Nat), (w3.alloc o1).cell? ⟨w.heap.size + 1 + 1, o, none⟩ = #[Value.int .i64 lo, .int .i64 hi][o]? := (K7.out.to HB3.out).c1
      rw [HNH.out] at HJ
      clear HPR HBL HB4
      go_wp2_with fail
      clear k7
      obtain ⟨W4, hW4⟩ : ∃ W4, w3.alloc (.cells #[.int .i64 t1, .bool t2] 46) = W4 := ⟨_, rfl⟩
      rw [hW4]
      have HB4 : Hid (Below W.heap.size W W4) := by subst hW4; exact zH (bAlloc HB3.out _)
      clear hW4 HB3
      obtain ⟨f, hf⟩ : ∃ f : Int → Bool, (fun n => S ((nxtA p (s1, sr) n).getD (0, false))) = f := ⟨_, rfl⟩
      have HFD : Hid (∀ n, S ((nxtA p (s1, sr) n).getD (0, false)) = f n) := zH (fun n => by rw [← hf])
      rw [hf] at HJ
      clear hf
      go_loopw [13, 14, 15] (fun v13 _ _ wr => ∃ i : Nat, v13 = .int .i64 (lo + (i : Int)) ∧ lo + (i : Int) ≤ hi + 1 ∧ Hid (((rngL (lo, hi)).take i).all f = true) ∧ Hid (Below W.heap.size W wr)) (fun v13 _ _ _ => (hi + 1 - intOf v13).toNat)
      case atStart => exact ⟨0, by simp, by omega, zH rfl, HB4⟩
      case round =>
        obtain ⟨i, rfl, hi1, hal, HBr⟩ := hrel
        obtain ⟨wo, hwo⟩ : ∃ wo, wo = wr := ⟨_, rfl⟩
        subst hwo
        obtain ⟨-, k5, -⟩ := K5.out.to HBr.out
        obtain ⟨-, k6, -⟩ := K6.out.to HBr.out
        obtain ⟨-, k7, -⟩ := K7.out.to HBr.out
        by_cases hin : lo + (i : Int) ≤ hi
        · obtain ⟨dn, hdn⟩ : ∃ d, lo + (i : Int) = d := ⟨_, rfl⟩
          have hilt : i < (rngL (lo, hi)).length := by rw [rngL_len]; dsimp only; omega
          have HTK : Hid ((rngL (lo, hi)).take (i + 1) = (rngL (lo, hi)).take i ++ [dn]) := zH (by rw [rngL_take hilt, ← hdn])
          have HDN := zH hdn
          rw [hdn] at hin hi1 ⊢
          have hd0 : 0 ≤ dn := by omega
          have hd1 : dn ≤ 50 := by omega
          clear hdn hilt
          go_wp2_with fail
          refine (HNX.out _ (bThen HB.out HBr.out) dn ⟨by have := HDN.out; omega, by omega⟩).mono ?_
          rintro e w5 ⟨rfl, hb⟩
          have HB5 : Hid (Below W.heap.size W w5) := zH (bThen HBr.out hb)
          clear hb HBr k5 k6 k7
          have hsw := HSW.out dn
          have HFN := zH (HFD.out dn)
          obtain ⟨⟨u1, u2⟩, hu⟩ : ∃ t, (nxtA p (s1, sr) dn).getD (0, false) = t := ⟨_, rfl⟩
          obtain ⟨ub, hub⟩ : ∃ t, (nxtA p (s1, sr) dn).isSome = t := ⟨_, rfl⟩
          rw [hu] at hsw HFN ⊢
          rw [hub]
          have hask := fun o => (((HS.out.to HB.out).to HB5.out).to (bAlloc (bSelf w5) o)).ask hsw
          rw [HFN.out] at hask
          have HTK2 := HTK
          clear hu hub hsw
          cases hfn : f dn with
          | true =>
            have HF1 := zH hfn
            rw [hfn] at hask
            clear hfn
            go_wp2_with fail
            go_roundw
            case rel => exact ⟨i + 1, congrArg (Value.int .i64) (by have := HDN.out; omega), by have := HDN.out; omega, zH (by rw [HTK.out, List.all_append, hal.out, List.all_cons, HF1.out]; rfl), zH (bAlloc HB5.out _)⟩
            case measure => simp [intOf]; omega
          | false =>
            have HF1 := zH hfn
            rw [hfn] at hask
            clear hfn
            go_wp2_with fail
            go_ret
            refine ⟨ret_int ?_, bThen HB.out (bAlloc HB5.out _)⟩
            have hall : (rngL (lo, hi)).all f = false := by
              rw [List.all_eq_false]
              refine ⟨dn, List.mem_of_mem_take (i := i + 1) (by rw [HTK.out]; simp), by rw [HF1.out]; simp⟩
            rw [HJ.out, hall]; rfl
        · go_wp2_with fail
          go_ret
          refine ⟨ret_int ?_, bThen HB.out HBr.out⟩
          have hil : (rngL (lo, hi)).length = i := by rw [rngL_len]; dsimp only; omega
          have hall : (rngL (lo, hi)).all f = true := by
            have := hal.out
            rwa [← hil, List.take_length] at this
          rw [HJ.out, hall]; rfl
end
section
open Go.RowKit
open Go.Maps (Keyed)

/-- The state that a value is. -/
def stU : Value → OSt
  | .agg ⟨[.int _ n, .bool b]⟩ => (n, b)
  | _ => (0, false)
theorem stU_v (s : OSt) : stU (stV s) = s := by cases s; rfl
/-- A set of states, each key of which is a state. -/
def SetX (W : World) (b n : Nat) (S : OSt → Bool) : Prop :=
  ∃ D : DataW Unit, W.ownsMap Tryz.prog stT (plainElem Tryz.prog boT) b n D ∧ (∀ s, StW s → D.atKey (klS s) (.lit (.bool false)) = .lit (.bool (S s)) ∧ Maps.has D (klS s) = S s) ∧ ∀ kl, Maps.has D kl = true → ∃ s, StW s ∧ kl = klS s

theorem SetX.set {W : World} {b n : Nat} {S : OSt → Bool} (h : SetX W b n S) : SetW W b n S := by
  obtain ⟨D, h1, h2, -⟩ := h
  exact ⟨D, h1, h2⟩
theorem SetX.new (w : World) : SetX (w.alloc (.map #[] 0)) w.heap.size 0 (fun _ => false) :=
  ⟨.map [], World.ownsMap_made w _ _ _, fun _ _ => ⟨rfl, rfl⟩, fun kl h => by cases h⟩
theorem SetX.lt {W : World} {b n : Nat} {S : OSt → Bool} (h : SetX W b n S) : b < W.heap.size := h.set.lt
theorem SetX.same {W W' : World} {b n : Nat} {S : OSt → Bool} (h : SetX W b n S) (hb : W'.heap[b]? = W.heap[b]?) : SetX W' b n S := by
  obtain ⟨D, ⟨es, c, h1, h2⟩, h3⟩ := h
  exact ⟨D, ⟨es, c, hb.trans h1, h2⟩, h3⟩
theorem SetX.to {W W' : World} {b n : Nat} {S : OSt → Bool} (h : SetX W b n S) (hb : Below W.heap.size W W') : SetX W' b n S := h.same (hb.block b h.lt)
theorem SetX.mono {W : World} {b n n' : Nat} {S : OSt → Bool} (h : SetX W b n S) (hn : n ≤ n') : SetX W b n' S := by
  obtain ⟨D, h1, h3⟩ := h
  exact ⟨D, h1.mono hn, h3⟩
theorem SetX.ext {W : World} {b n : Nat} {S T : OSt → Bool} (h : SetX W b n S) (he : ∀ s, S s = T s) : SetX W b n T := by
  have : S = T := funext he
  rw [← this]; exact h
theorem SetX.grown {W W' : World} {b n : Nat} {S : OSt → Bool} {row : Option Nat} (h : SetX W b n S) (hg : W.grownBy W' row) (hr : some b ≠ row) : SetX W' b n S := by
  obtain ⟨D, h1, h3⟩ := h
  exact ⟨D, h1.kept hg hr, h3⟩
/-- How many entries a map has. -/
def mapSz (w : World) (b : Nat) : Nat := match w.heap[b]? with
  | some (.map es _) => es.size
  | _ => 0
theorem mapSz_same {W W' : World} {b : Nat} (hb : W'.heap[b]? = W.heap[b]?) : mapSz W' b = mapSz W b := by unfold mapSz; rw [hb]
theorem mapSz_size {P : Program} {k : TypeId} {R : Value → Option (DataW Unit × List MemPlace)} {w : World} {b n : Nat} {D : DataW Unit} (h : w.ownsMap P k R b n D) : mapSz w b = Maps.size D := by
  obtain ⟨es, c, h1, h2, h3, rfl⟩ := h
  unfold mapSz
  rw [h1, Maps.size_eq, length_sorted]
  simp
theorem SetX.put {W : World} {b n : Nat} {S : OSt → Bool} (h : SetX W b n S) {s : OSt} (hs : StW s) (hn : n < maxLen) :
    ∃ W', (Instr.mapUpdate mpT (.map (some b)) (stV s) (.bool true)).run Tryz.prog W = .ok () W' ∧ SetX W' b (n + 1) (fun x => S x || x == s) ∧ W.grownBy W' (some b) := by
  obtain ⟨D, h1, h3, h4⟩ := h
  have hm : Maps.IsMap D := (h1.tidy lawS).isMap
  obtain ⟨W', hrun, h2, hg⟩ := h1.update lawS undM hn (keyS hs) (plainElem_bool undB true)
  refine ⟨W', hrun, ⟨_, h2, fun x hx => ?_, fun kl hk => ?_⟩, hg⟩
  · by_cases he : x = s
    · subst he
      rw [Maps.atKey_put_same hm (lawS.key (keyS hs)), Maps.has_put_same hm (lawS.key (keyS hs))]
      simp
    · rw [Maps.atKey_put_other (klS_ne hx hs he), Maps.has_put_other (klS_ne hx hs he), (h3 x hx).1, (h3 x hx).2]
      have : (x == s) = false := by simpa using he
      simp [this]
  · by_cases he : kl = klS s
    · exact ⟨s, hs, he⟩
    · rw [Maps.has_put_other he] at hk
      exact h4 kl hk

/-- A range over a set under way: L the states that are still to come, cnt so many. -/
def RngW (W : World) (b r n : Nat) (S L : OSt → Bool) (cnt : Nat) : Prop :=
  ∃ (D : DataW Unit) (left : Lit → Bool), W.ranges Tryz.prog stT (plainElem Tryz.prog boT) b r n D left cnt ∧ (∀ s, StW s → D.atKey (klS s) (.lit (.bool false)) = .lit (.bool (S s)) ∧ Maps.has D (klS s) = S s) ∧
    (∀ s, StW s → left (klS s) = L s) ∧ ∀ kl, Maps.has D kl = true → ∃ s, StW s ∧ kl = klS s

theorem RngW.owns {W : World} {b r n : Nat} {S L : OSt → Bool} {cnt : Nat} (h : RngW W b r n S L cnt) : SetX W b n S := by
  obtain ⟨D, left, h1, h2, h3, h4⟩ := h
  exact ⟨D, h1.owns, h2, h4⟩
theorem RngW.left_eq {W : World} {b r n : Nat} {S L : OSt → Bool} {cnt : Nat} (h : RngW W b r n S L cnt) : W.rangeLeft b r = cnt := by
  obtain ⟨D, left, h1, -⟩ := h
  exact h1.left_eq
theorem RngW.ne {W : World} {b r n : Nat} {S L : OSt → Bool} {cnt : Nat} (h : RngW W b r n S L cnt) : r ≠ b := by
  obtain ⟨D, left, h1, -⟩ := h
  exact h1.ne
theorem RngW.lt {W : World} {b r n : Nat} {S L : OSt → Bool} {cnt : Nat} (h : RngW W b r n S L cnt) : r < W.heap.size := by
  obtain ⟨D, left, h1, -⟩ := h
  exact h1.lt
theorem RngW.grown {W W' : World} {b r n : Nat} {S L : OSt → Bool} {cnt : Nat} {row : Option Nat} (h : RngW W b r n S L cnt) (hg : W.grownBy W' row) (hb : some b ≠ row) (hr : some r ≠ row) : RngW W' b r n S L cnt := by
  obtain ⟨D, left, h1, h2⟩ := h
  exact ⟨D, left, h1.kept hg hb hr, h2⟩
theorem below_grown {W W' : World} (hb : Below W.heap.size W W') : W.grownBy W' none := ⟨hb.os, hb.tape, hb.output, hb.size, fun i hi _ => hb.block i hi⟩
theorem RngW.to {W W' : World} {b r n : Nat} {S L : OSt → Bool} {cnt : Nat} (h : RngW W b r n S L cnt) (hb : Below W.heap.size W W') : RngW W' b r n S L cnt := h.grown (below_grown hb) (by simp) (by simp)
theorem RngW.ext {W : World} {b r n : Nat} {S L T M : OSt → Bool} {cnt : Nat} (h : RngW W b r n S L cnt) (h1 : ∀ s, S s = T s) (h2 : ∀ s, L s = M s) : RngW W b r n T M cnt := by
  have e1 : S = T := funext h1
  have e2 : L = M := funext h2
  rw [← e1, ← e2]; exact h
/-- A range begins. -/
theorem SetX.range {W : World} {b n : Nat} {S : OSt → Bool} (h : SetX W b n S) :
    ∃ W' cnt, (Instr.range mpT (.map (some b))).run Tryz.prog W = .ok (.pointer (some ⟨W.heap.size, 0, none⟩)) W' ∧ RngW W' b W.heap.size n S S cnt ∧ W.grownBy W' none ∧ W'.heap.size = W.heap.size + 1 := by
  obtain ⟨D, h1, h2, h3⟩ := h
  obtain ⟨W', r1, r2, r3, r4⟩ := h1.range lawS undM
  exact ⟨W', _, r1, ⟨D, _, r2, h2, fun s hs => (h2 s hs).2, h3⟩, r3, r4⟩
theorem klS_same {s t : OSt} (hs : StW s) (ht : StW t) : (klS s).sameKey (klS t) = (s == t) := by
  by_cases h : s = t
  · subst h
    rw [WideAt.sameKey_self (lawS.key (keyS hs))]; simp
  · rw [Maps.sameKey_ne (klS_ne hs ht h)]
    simpa using h
/-- The next state of a range. -/
theorem RngW.next {W : World} {b r n : Nat} {S L : OSt → Bool} {cnt : Nat} (h : RngW W b r n S L cnt) (ty : TypeId) :
    ((∀ s, StW s → L s = false) ∧ (Instr.next (.pointer (some ⟨r, 0, none⟩)) false ty).run Tryz.prog W = .ok (.tuple #[.bool false]) W) ∨
    ∃ s W' cnt', StW s ∧ L s = true ∧ S s = true ∧ (Instr.next (.pointer (some ⟨r, 0, none⟩)) false ty).run Tryz.prog W = .ok (.tuple #[.bool true, stV s, .bool true]) W' ∧
      RngW W' b r n S (fun x => L x && !(x == s)) cnt' ∧ cnt' < cnt ∧ W.grownBy W' (some r) ∧ W'.heap.size = W.heap.size ∧ (Instr.entry (.pointer (some ⟨r, 0, none⟩))).run Tryz.prog W' = .ok (.tuple #[stV s, .bool true]) W' := by
  obtain ⟨D, left, h1, h2, h3, h4⟩ := h
  rcases h1.next lawS ty with ⟨-, hl, hrun⟩ | ⟨key, v, kl, y, W', cnt', hkey, hlk, hv, hat, hrun, hrg, hlt, hgr, hsz, hen⟩
  · exact .inl ⟨fun s hs => by rw [← h3 s hs]; exact hl _, hrun⟩
  · obtain ⟨x, rfl, e⟩ := plainElem_bool_inv hv
    obtain ⟨s, hs, rfl⟩ := h4 kl (Maps.has_true_of_atKey (y := y.1) hat)
    obtain ⟨s', rfl, e2, -⟩ := keyS_inv hkey
    have hss : s' = s := by
      have e3 := congrArg stU (lawS.inj hkey (keyS hs))
      rwa [stU_v, stU_v] at e3
    subst hss
    have hS : S s' = true := by rw [← (h2 s' hs).2]; exact Maps.has_true_of_atKey (y := y.1) hat
    have hx : x = true := by
      have a := (h2 s' hs).1
      rw [hat, hS, e] at a
      exact Lit.bool.inj (DataW.lit.inj a)
    subst hx
    refine .inr ⟨s', W', cnt', hs, by rw [← h3 s' hs]; exact hlk, hS, hrun, ⟨D, _, hrg, h2, fun z hz => ?_, h4⟩, hlt, hgr, hsz, hen⟩
    dsimp only
    rw [h3 z hz, klS_same hz hs]
/-- A state is taken out on the way. -/
theorem RngW.drop {W : World} {b r n : Nat} {S L : OSt → Bool} {cnt : Nat} (h : RngW W b r n S L cnt) {s : OSt} (hs : StW s) (ty : TypeId) :
    ∃ W' cnt', (Builtin.delete_ #[mpT, stT] ty #[.map (some b), stV s]).run Tryz.prog W = .ok (.tuple #[]) W' ∧ RngW W' b r n (fun x => S x && !(x == s)) (fun x => L x && !(x == s)) cnt' ∧ cnt' ≤ cnt ∧ W.grownBy W' (some b) ∧ W'.heap.size = W.heap.size ∧ (S s = true → mapSz W' b < mapSz W b) := by
  obtain ⟨D, left, h1, h2, h3, h4⟩ := h
  obtain ⟨W', cnt', hrun, hrg, hle, ht⟩ := h1.drop lawS undM (keyS hs) ty
  have hsz : W'.heap.size = W.heap.size := by
    obtain ⟨es, c, es', c', -, e⟩ := ht
    rw [e]; simp [ChangeMaps.setBlock]
  refine ⟨W', cnt', hrun, ⟨_, _, hrg, fun x hx => ?_, fun z hz => ?_, fun kl hk => ?_⟩, hle, ht.grown, hsz, fun hS => ?_⟩
  · by_cases he : x = s
    · subst he
      rw [Maps.atKey_del_same, Maps.has_del_same]
      simp
    · rw [Maps.atKey_del_other (klS_ne hx hs he), Maps.has_del_other (klS_ne hx hs he), (h2 x hx).1, (h2 x hx).2]
      have : (x == s) = false := by simpa using he
      simp [this]
  · dsimp only
    rw [h3 z hz, klS_same hz hs]
  · by_cases he : kl = klS s
    · rw [he, Maps.has_del_same] at hk; cases hk
    · rw [Maps.has_del_other he] at hk
      exact h4 kl hk
  · rw [mapSz_size hrg.owns, mapSz_size h1.owns]
    have := Maps.size_del (k := klS s) (h1.owns.tidy lawS)
    rw [(h2 s hs).2, hS] at this
    simp at this
    omega
end
section
set_option maxRecDepth 100000
set_option maxHeartbeats 12800000
open Go.RowKit
attribute [local go_sem] Oper.semAt_some

def ordV (l : List (Int × Int × Int)) (k : Nat) : Bool := if k = 0 then (vg l 0).1 == 0 else decide ((vg l (k - 1)).1 < (vg l k).1) && decide ((vg l (k - 1)).2.1 ≤ (vg l k).2.1) && decide ((vg l (k - 1)).2.2 ≤ (vg l k).2.2)
def vlE (l : List (Int × Int × Int)) (k : Nat) : Int := firstE [unl (wthn (vg l k).1 0 1000 && wthn (vg l k).2.1 0 50 && wthn (vg l k).2.2 0 50) 2, unl (decide ((vg l k).2.1 ≤ (vg l k).2.2) && ordV l k) 9]
/-- The index and the error of a valve. -/
def chVl (l : List (Int × Int × Int)) : Int × Int := if fewE l.length ≠ 0 then (0, fewE l.length) else eachR (vlE l) 0 l.length
theorem vWithin_any (v : Int) (b : Bool) (hb : wthn v 0 1000 = b) (w : World) : Calls Tryz.prog 99 #[.int .i64 v, .int .i64 0, .int .i64 1000] w fun e w' => e = .returned (.bool b) ∧ w = w' := by
  subst hb; exact oWithin_any v 0 1000 w
theorem vFlow_any (v : Int) (b : Bool) (hb : wthn v 0 50 = b) (w : World) : Calls Tryz.prog 108 #[.int .i64 v] w fun e w' => e = .returned (.bool b) ∧ w = w' := by
  subst hb; exact isFlow_any v w

theorem vl1_zero (l : List (Int × Int × Int)) (bp : Nat) (w : World) :
    Calls Tryz.prog 113 #[.int .i64 0, .agg #[.int .i64 (vg l 0).1, .int .i64 (vg l 0).2.1, .int .i64 (vg l 0).2.2], .pointer (some ⟨bp, 0, none⟩)] w fun e w' => e = .returned (.int .i64 (vlE l 0)) ∧ Below w.heap.size w w' := by
  have HE : Hid (firstE [unl (wthn (vg l 0).1 0 1000 && wthn (vg l 0).2.1 0 50 && wthn (vg l 0).2.2 0 50) 2, unl (decide ((vg l 0).2.1 ≤ (vg l 0).2.2) && ordV l 0) 9] = vlE l 0) := zH rfl
  obtain ⟨pe, hpe⟩ : ∃ e, vlE l 0 = e := ⟨_, rfl⟩
  rw [hpe] at HE ⊢
  clear hpe
  have ho : ordV l 0 = ((vg l 0).1 == 0) := by unfold ordV; rw [if_pos rfl]
  rw [ho] at HE
  obtain ⟨⟨v, q, h⟩, hv⟩ : ∃ v, vg l 0 = v := ⟨_, rfl⟩
  rw [hv] at HE ⊢
  clear hv ho
  dsimp only at HE ⊢
  obtain ⟨c, hc⟩ : ∃ b, wthn h 0 50 = b := ⟨_, rfl⟩
  rw [hc] at HE
  have HC := zH (fun W => vFlow_any h c hc W)
  clear hc
  cases hz : v == 0
  all_goals
    cases hvo : wthn v 0 1000
  all_goals
    cases hqo : wthn q 0 50
  all_goals
    cases hqh : decide (q ≤ h)
  all_goals
    rw [hz, hvo, hqo, hqh] at HE
    have HV := zH (fun W => vWithin_any v _ hvo W)
    have HQ := zH (fun W => vFlow_any q _ hqo W)
    clear hvo hqo
    go_enter Tryz.func113, Tryz.ntmps113
    go_wp2_with fail
    obtain ⟨W1, hW1⟩ : ∃ W1, w.alloc (.cells #[.int .i64 v, .int .i64 q, .int .i64 h] 90) = W1 := ⟨_, rfl⟩
    rw [hW1]
    have K4 : Hid (Blk W1 w.heap.size #[.int .i64 v, .int .i64 q, .int .i64 h]) := by subst hW1; exact zH (Blk.new _ _ _)
    have HB : Hid (Below w.heap.size w W1) := by subst hW1; exact zH (bAlloc (bSelf w) _)
    clear hW1
    refine wp_region_quiet_tail 23 (fun w' => Below (World.heap W1).size (W1) w') (by kernel_rfl) (by kernel_rfl) (Below.refl _ _).drew ?_
    simp only [List.take_succ_cons, List.take_zero, List.drop_succ_cons, List.drop_zero]
    refine WQ.out ?_
    repeat (first | (refine WQ_no (by rfl) ?_; (simp only [Act.put, zzT, zzO, zzS])) | (refine WQ_yes (by rfl) ?_; apply Exists.intro; refine ⟨fun w1 hb1 => ?_, ?_⟩; (focus (((obtain ⟨-, k4, -⟩ := K4.out.to hb1); have hb1 := zH hb1; go_simp); (try (go_bits; try go_simp)); (try (rw [if_pos (by omega)]; try go_simp)); (first | done | ((first | (go_at_call 99; refine (HV.out _).mono ?_; rintro e w' ⟨rfl, rfl⟩; exact ⟨rfl, hb1.out⟩) | (go_at_call 108; refine (HQ.out _).mono ?_; rintro e w' ⟨rfl, rfl⟩; exact ⟨rfl, hb1.out⟩) | (go_at_call 108; refine (HC.out _).mono ?_; rintro e w' ⟨rfl, rfl⟩; exact ⟨rfl, hb1.out⟩) | (go_at_call 94; refine (oUnless_any _ _ _).mono ?_; rintro e w' ⟨rfl, rfl⟩; exact ⟨rfl, hb1.out⟩))) | (with_reducible rfl) | exact rfl))); (simp only [Act.put, zzT, zzO, zzS])))
    refine WQ_nil ?_
    intro w1 hb1
    go_wp2_with fail
    refine (oFirst2_new _ _ _ _ (by simp)).mono ?_
    rintro e w' ⟨rfl, rfl⟩
    go_wp2_with fail
    go_ret
    exact ⟨ret_int (by rw [← HE.out]; first | rfl | simp), bAlloc (bThen HB.out hb1) _⟩

theorem vl1_succ (l : List (Int × Int × Int)) (a : Option Addr) (cap j bp : Nat) (w : World) (hk : j + 1 < l.length) (hlen : l.length ≤ 100000) (hp : Blk w bp #[.slice a l.length cap]) (hr : Reads w a (l.length * 3) (flws l)) :
    Calls Tryz.prog 113 #[.int .i64 ((j + 1 : Nat) : Int), .agg #[.int .i64 (vg l (j + 1)).1, .int .i64 (vg l (j + 1)).2.1, .int .i64 (vg l (j + 1)).2.2], .pointer (some ⟨bp, 0, none⟩)] w fun e w' => e = .returned (.int .i64 (vlE l (j + 1))) ∧ Below w.heap.size w w' := by
  have HE : Hid (firstE [unl (wthn (vg l (j + 1)).1 0 1000 && wthn (vg l (j + 1)).2.1 0 50 && wthn (vg l (j + 1)).2.2 0 50) 2, unl (decide ((vg l (j + 1)).2.1 ≤ (vg l (j + 1)).2.2) && ordV l (j + 1)) 9] = vlE l (j + 1)) := zH rfl
  obtain ⟨pe, hpe⟩ : ∃ e, vlE l (j + 1) = e := ⟨_, rfl⟩
  rw [hpe] at HE ⊢
  clear hpe
  have ho : ordV l (j + 1) = (decide ((vg l j).1 < (vg l (j + 1)).1) && decide ((vg l j).2.1 ≤ (vg l (j + 1)).2.1) && decide ((vg l j).2.2 ≤ (vg l (j + 1)).2.2)) := by unfold ordV; rw [if_neg (by omega), Nat.add_sub_cancel]
  rw [ho] at HE
  obtain ⟨⟨v, q, h⟩, hv⟩ : ∃ v, vg l (j + 1) = v := ⟨_, rfl⟩
  obtain ⟨⟨v', q', h'⟩, hv'⟩ : ∃ v, vg l j = v := ⟨_, rfl⟩
  rw [hv, hv'] at HE
  rw [hv]
  obtain ⟨b, off, rfl, hb, hc⟩ := hr.at (k := j * 3) (by omega)
  have c0 : w.cell? ⟨b, off + j * 3, none⟩ = some (.int .i64 v') := by have := hc (j * 3) (by omega); rw [flws0, hv'] at this; exact this
  have c1 : w.cell? ⟨b, off + j * 3 + 1, none⟩ = some (.int .i64 q') := by have := hc (j * 3 + 1) (by omega); rw [flws1, hv'] at this; exact this
  have c2 : w.cell? ⟨b, off + j * 3 + 1 + 1, none⟩ = some (.int .i64 h') := by have := hc (j * 3 + 1 + 1) (by omega); rw [flws2, hv'] at this; exact this
  obtain ⟨hbp, kp, -⟩ := hp
  have hj : j < l.length := by omega
  obtain ⟨n, hn⟩ : ∃ n, l.length = n := ⟨_, rfl⟩
  rw [hn] at hj hlen kp
  clear hv hv' ho hr hc hn hk
  dsimp only at HE ⊢
  obtain ⟨c, hc⟩ : ∃ b, wthn h 0 50 = b := ⟨_, rfl⟩
  rw [hc] at HE
  have HC := zH (fun W => vFlow_any h c hc W)
  clear hc
  have hz : (decide (v' < v) = false) ∨ (decide (v' < v) = true ∧ decide (q' ≤ q) = false) ∨ (decide (v' < v) = true ∧ decide (q' ≤ q) = true) := by
    cases decide (v' < v) <;> cases decide (q' ≤ q) <;> simp
  rcases hz with z1 | ⟨z1, z2⟩ | ⟨z1, z2⟩
  all_goals
    cases hvo : wthn v 0 1000
  all_goals
    cases hqo : wthn q 0 50
  all_goals
    cases hqh : decide (q ≤ h)
  all_goals
    rw [hvo, hqo, hqh, z1] at HE
    try rw [z2] at HE
    have HV := zH (fun W => vWithin_any v _ hvo W)
    have HQ := zH (fun W => vFlow_any q _ hqo W)
    clear hvo hqo
    go_enter Tryz.func113, Tryz.ntmps113
    go_wp2_with fail
    obtain ⟨W1, hW1⟩ : ∃ W1, (w.alloc (.cells #[.int .i64 v, .int .i64 q, .int .i64 h] 90)).alloc (.cells #[.int .i64 v', .int .i64 q', .int .i64 h'] 90) = W1 := ⟨_, rfl⟩
    rw [hW1]
    have K4 : Hid (Blk W1 w.heap.size #[.int .i64 v, .int .i64 q, .int .i64 h]) := by subst hW1; exact zH ((Blk.new _ _ _).alloc _)
    have HB : Hid (Below w.heap.size w W1) := by subst hW1; exact zH (bAlloc (bAlloc (bSelf w) _) _)
    clear hW1 c0 c1 c2 kp
    refine wp_region_quiet_tail 23 (fun w' => Below (World.heap W1).size (W1) w') (by kernel_rfl) (by kernel_rfl) (Below.refl _ _).drew ?_
    simp only [List.take_succ_cons, List.take_zero, List.drop_succ_cons, List.drop_zero]
    refine WQ.out ?_
    repeat (first | (refine WQ_no (by rfl) ?_; (simp only [Act.put, zzT, zzO, zzS])) | (refine WQ_yes (by rfl) ?_; apply Exists.intro; refine ⟨fun w1 hb1 => ?_, ?_⟩; (focus (((obtain ⟨-, k4, -⟩ := K4.out.to hb1); have hb1 := zH hb1; go_simp); (try (go_bits; try go_simp)); (try (rw [if_pos (by omega)]; try go_simp)); (first | done | ((first | (go_at_call 99; refine (HV.out _).mono ?_; rintro e w' ⟨rfl, rfl⟩; exact ⟨rfl, hb1.out⟩) | (go_at_call 108; refine (HQ.out _).mono ?_; rintro e w' ⟨rfl, rfl⟩; exact ⟨rfl, hb1.out⟩) | (go_at_call 108; refine (HC.out _).mono ?_; rintro e w' ⟨rfl, rfl⟩; exact ⟨rfl, hb1.out⟩) | (go_at_call 94; refine (oUnless_any _ _ _).mono ?_; rintro e w' ⟨rfl, rfl⟩; exact ⟨rfl, hb1.out⟩))) | (with_reducible rfl) | exact rfl))); (simp only [Act.put, zzT, zzO, zzS])))
    refine WQ_nil ?_
    intro w1 hb1
    go_wp2_with fail
    refine (oFirst2_new _ _ _ _ (by simp)).mono ?_
    rintro e w' ⟨rfl, rfl⟩
    go_wp2_with fail
    go_ret
    exact ⟨ret_int (by rw [← HE.out]; first | rfl | simp), bAlloc (bThen HB.out hb1) _⟩
end
section
open Go.RowKit
attribute [local go_sem] Oper.semAt_some

theorem vl1_any (l : List (Int × Int × Int)) (a : Option Addr) (cap k bp : Nat) (w : World) (hk : k < l.length) (hlen : l.length ≤ 100000) (hp : Blk w bp #[.slice a l.length cap]) (hr : Reads w a (l.length * 3) (flws l)) :
    Calls Tryz.prog 113 #[.int .i64 k, .agg #[.int .i64 (vg l k).1, .int .i64 (vg l k).2.1, .int .i64 (vg l k).2.2], .pointer (some ⟨bp, 0, none⟩)] w fun e w' => e = .returned (.int .i64 (vlE l k)) ∧ Below w.heap.size w w' := by
  rcases k with _ | j
  · exact vl1_zero l bp w
  · exact vl1_succ l a cap j bp w hk hlen hp hr

set_option maxHeartbeats 1600000 in
set_option maxRecDepth 100000 in
theorem CheckValve_any (l : List (Int × Int × Int)) (a : Option Addr) (cap : Nat) (w : World) (hlen : l.length ≤ 100000) (hr : Reads w a (l.length * 3) (flws l)) :
    Calls Tryz.prog 44 #[.slice a l.length cap] w fun e w' => e = .returned (.tuple #[.int .i64 (chVl l).1, .int .i64 (chVl l).2]) ∧ Below w.heap.size w w' := by
  have HEA := zH (fun W bp (hp : Blk W bp #[.slice a l.length cap]) (hb : Below w.heap.size w W) => eachFl_any l a cap 113 #[.pointer (some ⟨bp, 0, none⟩)] W (vlE l) (fun _ W' => Blk W' bp #[.slice a l.length cap] ∧ Below w.heap.size w W') hlen (by intro args w; go_simp) ⟨hp, hb⟩ (fun _ W' _ h => hr.to h.2) (fun _ W' o h => ⟨h.1.alloc o, bAlloc h.2 o⟩)
    (fun k W' hk h => (vl1_any l a cap k bp W' hk hlen h.1 (hr.to h.2)).mono fun e w'' ⟨he, hb'⟩ => ⟨he, h.1.to hb', bThen h.2 hb'⟩))
  have H1 : Hid (chVl l = if fewE l.length ≠ 0 then (0, fewE l.length) else eachR (vlE l) 0 l.length) := zH rfl
  obtain ⟨⟨c1, c2⟩, hch⟩ : ∃ c, chVl l = c := ⟨_, rfl⟩
  rw [hch] at H1 ⊢
  clear hch
  obtain ⟨⟨e1, e2⟩, her⟩ : ∃ e, eachR (vlE l) 0 l.length = e := ⟨_, rfl⟩
  rw [her] at H1 HEA
  clear her
  obtain ⟨n, hn⟩ : ∃ n, l.length = n := ⟨_, rfl⟩
  rw [hn] at HEA H1 hlen ⊢
  obtain ⟨fe, hfe⟩ : ∃ e, fewE (n : Int) = e := ⟨_, rfl⟩
  have HFE := zH hfe
  rw [hfe] at H1
  clear hfe hr hn
  dsimp only at HEA ⊢
  by_cases hf : fe = 0
  · have hc : (c1, c2) = (e1, e2) := by rw [H1.out, if_neg (by simpa using hf)]
    injection hc with h1 h2
    subst h1 h2
    clear H1
    go_enter Tryz.func44, Tryz.ntmps44
    go_wp2_with fail
    refine (oFew_any _ _).mono ?_
    rintro e w1 ⟨rfl, hb⟩
    rw [HFE.out, hf]
    have K0 : Hid (Blk w1 w.heap.size #[.slice a n cap]) := zH ((Blk.new _ _ _).to hb)
    have HB := zH (bThen (bAlloc (bSelf w) _) hb)
    clear hb
    obtain ⟨-, k0, -⟩ := K0.out
    go_wp2_with fail
    refine (HEA.out w1 _ K0.out HB.out).mono ?_
    rintro e w2 ⟨rfl, kk, -, ⟨hk0, hbb⟩, -⟩
    replace HB := zH hbb
    clear hk0 hbb k0
    go_wp2_with fail
    go_ret2
    exact ⟨rfl, HB.out⟩
  · have hc : (c1, c2) = (0, fe) := by rw [H1.out, if_pos hf]
    injection hc with h1 h2
    subst h1 h2
    clear H1
    have hf' : (c2 != 0) = true := by simpa using hf
    have HF := zH hf
    clear hf
    go_enter Tryz.func44, Tryz.ntmps44
    go_wp2_with fail
    refine (oFew_any _ _).mono ?_
    rintro e w1 ⟨rfl, hb⟩
    rw [HFE.out]
    have HB := zH (bThen (bAlloc (bSelf w) _) hb)
    clear hb
    go_wp2_with fail
    go_ret2
    exact ⟨rfl, HB.out⟩
end
end Go.Proofs.YtjfedpblkejmkaaGreat
