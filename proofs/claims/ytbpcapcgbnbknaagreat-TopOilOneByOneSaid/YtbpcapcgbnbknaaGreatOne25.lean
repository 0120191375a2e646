/-
  Texts of this claim, in their build order: OA8.
-/
import Derived.Test.YtbpcapcgbnbknaaGreatOne24
import Derived.Test.YtbpcapcgbnbknaaGreatOne21
import Derived.Test.YtbpcapcgbnbknaaGreatOne0

namespace Go.Proofs.YtbpcapcgbnbknaaGreat
section
open Go.RowKit
attribute [local go_sem] Oper.semAt_some

theorem Blk.c1 {w : World} {b : Nat} {cs : Array Value} (h : Blk w b cs) : ∀ (o1 : Obj) (o : Nat), (w.alloc o1).cell? ⟨b, o, none⟩ = cs[o]? := fun o1 o => (h.alloc o1).2.1 o
theorem Blk.c2 {w : World} {b : Nat} {cs : Array Value} (h : Blk w b cs) : ∀ (o1 o2 : Obj) (o : Nat), ((w.alloc o1).alloc o2).cell? ⟨b, o, none⟩ = cs[o]? := fun o1 o2 o => ((h.alloc o1).alloc o2).2.1 o
theorem Blk.f1 {w : World} {b : Nat} {cs : Array Value} (h : Blk w b cs) : ∀ (o1 : Obj) (o : Nat), (w.alloc o1).frozen? ⟨b, o, none⟩ = false := fun o1 o => (h.alloc o1).2.2 o
/-- What openState hands over, with the plant's parts named. -/
theorem OpsPost.ex {p : Plt} {a : Option Addr} {cap : Nat} {er : Int} {w : World} {e : Ending} {w' : World} (h : OpsPost p a cap er w e w') : ∃ al cl, e = .returned (.tuple #[.agg (plL p a cap al cl), .int .i64 er]) ∧ p.pts.length ≤ cl ∧ Reads w' al (p.pts.length * 2) (fracs p.pts) ∧ Below w.heap.size w w' ∧ ∀ q, al = some q → w.heap.size ≤ q.block := h

/-- The pressure at a volume. -/
def prsR (p : Plt) (v : Int) : Int × Int := if opSE p v = 0 then fr (prQ p.pts v).1 (prQ p.pts v).2 else (0, 0)
set_option maxHeartbeats 3200000 in
set_option maxRecDepth 100000 in
theorem PressureAt_any (p : Plt) (x : Int) (a : Option Addr) (cap : Nat) (w : World) (hlen : p.pts.length ≤ 1000) (hr : Reads w a (p.pts.length * 2) (fracs p.pts)) :
    Calls Tryz.prog 83 #[.agg (plC p a cap), .int .i64 x] w fun e w' => e = .returned (.tuple #[.agg #[.int .i64 (prsR p x).1, .int .i64 (prsR p x).2], .int .i64 (opSE p x)]) ∧ Below w.heap.size w w' := by
  have HO := zH (fun W (hb : Below w.heap.size w W) => open_any p a cap W hlen (hr.to hb))
  have HC := zH (fun W al cl (h0 : (chP p).2 = 0) hr => capacity_any p a al cap cl W (by have := (chP_ok h0).pts.two; omega) (by omega) hr)
  have HPR := zH (fun W al cl (h0 : opSE p x = 0) hr => pressure_any p x a al cap cl W (OnOk.of_pts (opSE_ok (s := (x, false)) h0).1.pts (opSE_ok (s := (x, false)) h0).2.1 (opSE_ok (s := (x, false)) h0).2.2) hr)
  have HFR := zH (fun W (h0 : opSE p x = 0) => oFrac_any (prQ p.pts x) W (QOk.of_pts (opSE_ok (s := (x, false)) h0).1.pts (opSE_ok (s := (x, false)) h0).2.1 (opSE_ok (s := (x, false)) h0).2.2))
  have HE : Hid (opSE p x = if (chP p).2 = 0 then unl (decide (0 ≤ x) && decide (x ≤ capV p.pts)) 2 else (chP p).2) := zH rfl
  have HP : Hid (prsR p x = if opSE p x = 0 then fr (prQ p.pts x).1 (prQ p.pts x).2 else (0, 0)) := zH rfl
  obtain ⟨oe, hoe⟩ : ∃ e, opSE p x = e := ⟨_, rfl⟩
  obtain ⟨ch, hch⟩ : ∃ e, (chP p).2 = e := ⟨_, rfl⟩
  obtain ⟨pr, hpr⟩ : ∃ e, prsR p x = e := ⟨_, rfl⟩
  obtain ⟨q, hq⟩ : ∃ e, prQ p.pts x = e := ⟨_, rfl⟩
  rw [hoe] at HE HP HPR HFR ⊢
  rw [hpr] at HP ⊢
  rw [hch] at HE HC
  rw [hq] at HP HPR HFR
  have HOP : Hid (∀ w e w', OnOk p.pts x ∨ True → OpnPost p a cap w e w' → ∃ al cl, e = .returned (.tuple #[.agg (plL p a cap al cl), .int .i64 ch]) ∧ p.pts.length ≤ cl ∧ Reads w' al (p.pts.length * 2) (fracs p.pts) ∧ Below w.heap.size w w' ∧ ∀ q, al = some q → w.heap.size ≤ q.block) := zH (fun w e w' _ h => by unfold OpnPost at h; rw [hch] at h; exact h)
  clear hoe hch hpr hq hr hlen
  by_cases hc : ch = 0
  · subst hc
    rw [if_pos rfl] at HE
    replace HC := zH (fun W al cl hr => HC.out W al cl rfl hr)
    by_cases h0 : oe = 0
    · subst h0
      rw [if_pos rfl] at HP
      replace HPR := zH (fun W al cl hr => HPR.out W al cl rfl hr)
      replace HFR := zH (fun W => HFR.out W rfl)
      go_enter Tryz.func83, Tryz.ntmps83
      go_wp2_with fail
      refine (HO.out _ (bAlloc (bAlloc (bSelf w) _) _)).mono ?_
      intro e w1 hpost
      obtain ⟨al, cl, rfl, hcl, hrd, hb, hfr⟩ := HOP.out _ _ _ (.inr trivial) hpost
      have K1 : Hid (Blk w1 (w.heap.size + 1) #[.int .i64 0, .int .i64 0]) := zH ((Blk.newAt _ _ _ (by simp)).to hb)
      have HB := zH (bThen (bAlloc (bAlloc (bSelf w) _) _) hb)
      have HRD := zH hrd
      clear hb hrd hpost hfr HO
      go_wp2_with fail
      obtain ⟨W, hW⟩ : ∃ W, w1.alloc (.cells #[.slice a p.pts.length cap, .int .i64 p.pump, .int .i64 p.on, .int .i64 p.off, .slice al p.pts.length cl] 145) = W := ⟨_, rfl⟩
      rw [hW]
      have K3 : Hid (Blk W w1.heap.size #[.slice a p.pts.length cap, .int .i64 p.pump, .int .i64 p.on, .int .i64 p.off, .slice al p.pts.length cl]) := by subst hW; exact zH (Blk.new _ _ _)
      replace K1 : Hid (Blk W (w.heap.size + 1) #[.int .i64 0, .int .i64 0]) := by subst hW; exact zH (K1.out.alloc _)
      replace HB : Hid (Below w.heap.size w W) := by subst hW; exact zH (bAlloc HB.out _)
      replace HRD : Hid (Reads W al (p.pts.length * 2) (fracs p.pts)) := by subst hW; exact zH (HRD.out.alloc _)
      clear hW
      obtain ⟨hs3, k3, -⟩ := K3.out
      go_wp2_with fail
      refine (HC.out _ al cl HRD.out).mono ?_
      rintro e w2 ⟨rfl, hb⟩
      replace K1 := zH (K1.out.to hb)
      replace K3 := zH (K3.out.to hb)
      replace HB := zH (bThen HB.out hb)
      replace HRD := zH (HRD.out.to hb)
      clear hb k3 hs3 HC
      obtain ⟨hs3, k3, -⟩ := K3.out
      go_wp2_with (first | (go_at_call 123; refine (oWithin_any _ _ _ _).mono ?_; rintro e w' ⟨rfl, rfl⟩) | (go_at_call 80; refine (oUnless_any _ _ _).mono ?_; rintro e w' ⟨rfl, rfl⟩; rw [← HE.out]))
      refine (HPR.out _ al cl HRD.out).mono ?_
      rintro e w3 ⟨rfl, hb⟩
      replace K1 := zH (K1.out.to hb)
      replace HB := zH (bThen HB.out hb)
      clear hb HPR HRD k3 hs3 K3
      go_wp2_with fail
      refine (HFR.out _).mono ?_
      rintro e w4 ⟨rfl, hb⟩
      replace K1 := zH (K1.out.to hb)
      replace HB := zH (bThen HB.out hb)
      clear hb HFR
      obtain ⟨hs1, k1, f1⟩ := K1.out
      rw [← HP.out]
      obtain ⟨v, r⟩ := pr
      dsimp only
      go_wp2_with fail
      have F := (K1.out.set 0 (.int .i64 v)).set 1 (.int .i64 r)
      have F0 := F.2.1 0
      have F1 := F.2.1 1
      clear F k1 f1
      refine bodyPost_ret (v := .tuple #[.agg #[.int .i64 v, .int .i64 r], .int .i64 0]) ?_ rfl ⟨rfl, ?_⟩
      · simp [results, Tryz.results83, go_sem, F0, F1]
      · exact (HB.out.setCell (p := ⟨w.heap.size + 1, 0, none⟩) (Nat.le_succ _) _).setCell (p := ⟨w.heap.size + 1, 1, none⟩) (Nat.le_succ _) _
    · have hx : pr = (0, 0) := by rw [HP.out, if_neg h0]
      subst hx
      clear HPR HFR HP
      have h0' : (oe != 0) = true := by simpa using h0
      clear h0
      go_enter Tryz.func83, Tryz.ntmps83
      go_wp2_with fail
      refine (HO.out _ (bAlloc (bAlloc (bSelf w) _) _)).mono ?_
      intro e w1 hpost
      obtain ⟨al, cl, rfl, hcl, hrd, hb, hfr⟩ := HOP.out _ _ _ (.inr trivial) hpost
      have K1 : Hid (Blk w1 (w.heap.size + 1) #[.int .i64 0, .int .i64 0]) := zH ((Blk.newAt _ _ _ (by simp)).to hb)
      have HB := zH (bThen (bAlloc (bAlloc (bSelf w) _) _) hb)
      have HRD := zH hrd
      clear hb hrd hpost hfr HO
      go_wp2_with fail
      refine (HC.out _ al cl (HRD.out.alloc _)).mono ?_
      rintro e w2 ⟨rfl, hb⟩
      replace K1 := zH ((K1.out.alloc _).to hb)
      replace HB := zH (bThen (bAlloc HB.out _) hb)
      clear hb HC
      obtain ⟨hs1, k1, f1⟩ := K1.out
      go_wp2_with (first | (go_at_call 123; refine (oWithin_any _ _ _ _).mono ?_; rintro e w' ⟨rfl, rfl⟩) | (go_at_call 80; refine (oUnless_any _ _ _).mono ?_; rintro e w' ⟨rfl, rfl⟩; rw [← HE.out]))
      have F := (K1.out.set 0 (.int .i64 0)).set 1 (.int .i64 0)
      have F0 := F.2.1 0
      have F1 := F.2.1 1
      clear F k1 f1
      refine bodyPost_ret (v := .tuple #[.agg #[.int .i64 0, .int .i64 0], .int .i64 oe]) ?_ rfl ⟨rfl, ?_⟩
      · simp [results, Tryz.results83, go_sem, F0, F1]
      · exact (HB.out.setCell (p := ⟨w.heap.size + 1, 0, none⟩) (Nat.le_succ _) _).setCell (p := ⟨w.heap.size + 1, 1, none⟩) (Nat.le_succ _) _
  · have hE : oe = ch := by have := HE.out; rw [if_neg hc] at this; exact this
    have hx : pr = (0, 0) := by rw [HP.out, if_neg (by rw [hE]; exact hc)]
    subst hx hE
    have hc1 : (oe == 0) = false := by rw [beq_eq_false_iff_ne]; exact hc
    have hc2 : (oe != 0) = true := by simpa using hc
    clear HPR HFR HP HC HE hc
    go_enter Tryz.func83, Tryz.ntmps83
    go_wp2_with fail
    refine (HO.out _ (bAlloc (bAlloc (bSelf w) _) _)).mono ?_
    intro e w1 hpost
    obtain ⟨al, cl, rfl, hcl, hrd, hb, hfr⟩ := HOP.out _ _ _ (.inr trivial) hpost
    have K1 : Hid (Blk w1 (w.heap.size + 1) #[.int .i64 0, .int .i64 0]) := zH ((Blk.newAt _ _ _ (by simp)).to hb)
    have HB := zH (bThen (bAlloc (bAlloc (bSelf w) _) _) hb)
    clear hb hrd hpost hfr HO
    obtain ⟨hs1, k1, f1⟩ := K1.out
    go_wp2_with fail
    have F := ((K1.out.set 0 (.int .i64 0)).set 1 (.int .i64 0)).alloc (.cells (plL p a cap al cl) 145)
    have F0 := F.2.1 0
    have F1 := F.2.1 1
    clear F k1 f1
    refine bodyPost_ret (v := .tuple #[.agg #[.int .i64 0, .int .i64 0], .int .i64 oe]) ?_ rfl ⟨rfl, ?_⟩
    · simp [results, Tryz.results83, go_sem, F0, F1]
    · exact bAlloc ((HB.out.setCell (p := ⟨w.heap.size + 1, 0, none⟩) (Nat.le_succ _) _).setCell (p := ⟨w.heap.size + 1, 1, none⟩) (Nat.le_succ _) _) _
end
end Go.Proofs.YtbpcapcgbnbknaaGreat
