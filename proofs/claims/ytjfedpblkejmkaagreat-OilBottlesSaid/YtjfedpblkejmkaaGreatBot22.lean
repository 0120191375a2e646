/-
  Texts of this claim, in their build order: OA7 OP16 OA8.
-/
import Derived.Test.YtjfedpblkejmkaaGreatBot21
import Derived.Test.YtjfedpblkejmkaaGreatBot19
import Derived.Test.YtjfedpblkejmkaaGreatBot0

namespace Go.Proofs.YtjfedpblkejmkaaGreat
section
open Go.RowKit
attribute [local go_sem] Oper.semAt_some

theorem firstE2 {a b : Int} : firstE [a, b] = 0 ↔ a = 0 ∧ b = 0 := by
  unfold firstE firstE firstE
  by_cases h : a = 0
  · rw [if_pos h]; by_cases h2 : b = 0
    · rw [if_pos h2]; exact ⟨fun _ => ⟨h, h2⟩, fun _ => rfl⟩
    · rw [if_neg h2]; exact ⟨fun e => absurd e h2, fun e => absurd e.2 h2⟩
  · rw [if_neg h]; exact ⟨fun e => absurd e h, fun e => absurd e.1 h⟩
theorem unlZ {b : Bool} {k : Int} (hk : k ≠ 0) : unl b k = 0 ↔ b = true := by
  unfold unl; cases b
  · simp [hk]
  · simp
theorem wthn_iff {n lo hi : Int} : wthn n lo hi = true ↔ lo ≤ n ∧ n ≤ hi := by unfold wthn; simp
theorem eachR_ok {err : Nat → Int} : ∀ (n k : Nat), (eachR err k n).2 = 0 → ∀ j, k ≤ j → j < k + n → err j = 0
  | 0, _, _, _, _, _ => by omega
  | n + 1, k, h, j, h1, h2 => by
    unfold eachR at h
    by_cases h0 : err k = 0
    · rw [if_pos h0] at h
      by_cases hj : j = k
      · rw [hj]; exact h0
      · exact eachR_ok n (k + 1) h j (by omega) (by omega)
    · rw [if_neg h0] at h; exact absurd h h0
/-- A plant without an error is a valid one. -/
theorem chP_ok {p : Plt} (h : (chP p).2 = 0) : PltOk p := by
  unfold chP at h
  by_cases h1 : fewE p.pts.length ≠ 0
  · rw [if_pos h1] at h; exact absurd h h1
  · rw [if_neg h1] at h
    have h1' : fewE p.pts.length = 0 := by simpa using h1
    by_cases h2 : (eachR (ptE p.pts) 0 p.pts.length).2 ≠ 0
    · rw [if_pos h2] at h; exact absurd h h2
    · rw [if_neg h2] at h
      have h2' : (eachR (ptE p.pts) 0 p.pts.length).2 = 0 := by simpa using h2
      have h3 : pltE p = 0 := h
      obtain ⟨f1, f2⟩ := firstE2.1 (show firstE [_, _] = 0 from h1')
      rw [unlZ (by decide), decide_eq_true_eq] at f1 f2
      obtain ⟨g1, g2⟩ := firstE2.1 (show firstE [_, _] = 0 from h3)
      rw [unlZ (by decide)] at g1 g2
      simp only [Bool.and_eq_true, wthn_iff, decide_eq_true_eq] at g1 g2
      have hp : ∀ k, k < p.pts.length → (wthn (fg p.pts k).1 0 200 = true ∧ wthn (fg p.pts k).2 0 1000 = true) ∧ ordB p.pts k = true := fun k hk => by
        have := eachR_ok _ _ h2' k (by omega) (by omega)
        obtain ⟨k1, k2⟩ := firstE2.1 (show firstE [_, _] = 0 from this)
        rw [unlZ (by decide)] at k1 k2
        simp only [Bool.and_eq_true] at k1
        exact ⟨k1, k2⟩
      refine ⟨⟨by omega, by omega, ?_, fun k hk => wthn_iff.1 (hp k hk).1.1, fun k hk => wthn_iff.1 (hp k hk).1.2, fun k hk => ?_⟩, g1.1.1, g1.1.2, g1.2, g2⟩
      · have := (hp 0 (by omega)).2
        unfold ordB at this
        rw [if_pos rfl] at this
        simpa using this
      · have := (hp (k + 1) hk).2
        unfold ordB at this
        rw [if_neg (by omega), Nat.add_sub_cancel] at this
        simpa using this

/-- The error of a plant and a state. -/
def opSE (p : Plt) (v : Int) : Int := if (chP p).2 = 0 then unl (decide (0 ≤ v) && decide (v ≤ capV p.pts)) 2 else (chP p).2
theorem opSE_ok {p : Plt} {s : OSt} (h : opSE p s.1 = 0) : PltOk p ∧ StOk p s := by
  unfold opSE at h
  by_cases h1 : (chP p).2 = 0
  · rw [if_pos h1, unlZ (by decide)] at h
    exact ⟨chP_ok h1, by simpa [StOk] using h⟩
  · rw [if_neg h1] at h; exact absurd h h1

def OpsPost (p : Plt) (a : Option Addr) (cap : Nat) (er : Int) (w : World) (e : Ending) (w' : World) : Prop :=
  ∃ al cl, e = .returned (.tuple #[.agg (plL p a cap al cl), .int .i64 er]) ∧ p.pts.length ≤ cl ∧ Reads w' al (p.pts.length * 2) (fracs p.pts) ∧ Below w.heap.size w w' ∧ ∀ q, al = some q → w.heap.size ≤ q.block

set_option maxHeartbeats 3200000 in
set_option maxRecDepth 100000 in
theorem openState_any (p : Plt) (s : OSt) (a : Option Addr) (cap : Nat) (w : World) (hlen : p.pts.length ≤ 1000) (hr : Reads w a (p.pts.length * 2) (fracs p.pts)) :
    Calls Tryz.prog 106 #[.agg (plC p a cap), .agg #[.int .i64 s.1, .bool s.2]] w (OpsPost p a cap (opSE p s.1) w) := by
  have HO := zH (fun W (hb : Below w.heap.size w W) => open_any p a cap W hlen (hr.to hb))
  have HE : Hid (opSE p s.1 = if (chP p).2 = 0 then unl (decide (0 ≤ s.1) && decide (s.1 ≤ capV p.pts)) 2 else (chP p).2) := zH rfl
  have HC := zH (fun W al cl (h0 : (chP p).2 = 0) hr => capacity_any p a al cap cl W (by have := (chP_ok h0).pts.two; omega) (by omega) hr)
  obtain ⟨ch, hch⟩ : ∃ e, (chP p).2 = e := ⟨_, rfl⟩
  obtain ⟨er, her⟩ : ∃ e, opSE p s.1 = e := ⟨_, rfl⟩
  rw [hch] at HE HC
  rw [her] at HE ⊢
  obtain ⟨n, hn⟩ : ∃ n, p.pts.length = n := ⟨_, rfl⟩
  have HP : Hid (∀ w e w', (∃ al cl, e = .returned (.tuple #[.agg #[.slice a n cap, .int .i64 p.pump, .int .i64 p.on, .int .i64 p.off, .slice al n cl], .int .i64 er]) ∧ n ≤ cl ∧ Reads w' al (n * 2) (fracs p.pts) ∧ Below w.heap.size w w' ∧ ∀ q, al = some q → w.heap.size ≤ q.block) → OpsPost p a cap er w e w') := zH (fun w e w' h => by rw [← hn] at h; exact h)
  have HQ : Hid (∀ w e w', OpnPost p a cap w e w' → ∃ al cl, e = .returned (.tuple #[.agg #[.slice a n cap, .int .i64 p.pump, .int .i64 p.on, .int .i64 p.off, .slice al n cl], .int .i64 ch]) ∧ n ≤ cl ∧ Reads w' al (n * 2) (fracs p.pts) ∧ Below w.heap.size w w' ∧ ∀ q, al = some q → w.heap.size ≤ q.block) := zH (fun w e w' h => by unfold OpnPost plL at h; rw [hn, hch] at h; exact h)
  clear her hr hch
  obtain ⟨s1, sr⟩ := s
  dsimp only at HE ⊢
  unfold plC at HO ⊢
  obtain ⟨pump, hpump⟩ : ∃ e, p.pump = e := ⟨_, rfl⟩
  obtain ⟨on, hon⟩ : ∃ e, p.on = e := ⟨_, rfl⟩
  obtain ⟨off', hoff⟩ : ∃ e, p.off = e := ⟨_, rfl⟩
  obtain ⟨C, hC⟩ : ∃ c, capV p.pts = c := ⟨_, rfl⟩
  unfold plL at HC
  rw [hn, hpump, hon, hoff] at HO HC ⊢
  rw [hC] at HC HE
  rw [hpump, hon, hoff] at HP HQ
  clear hn hpump hon hoff hC
  by_cases hc : ch = 0
  · subst hc
    rw [if_pos rfl] at HE
    replace HC := zH (fun W al cl hr => HC.out W al cl rfl hr)
    go_enter Tryz.func106, Tryz.ntmps106
    go_wp2_with fail
    refine (HO.out _ (bAlloc (bAlloc (bAlloc (bSelf w) _) _) _)).mono ?_
    intro e w1 hpost
    obtain ⟨al, cl, rfl, hcl, hrd, hb, hfr⟩ := HQ.out _ _ _ hpost
    have K1 : Hid (Blk w1 (w.heap.size + 1) #[.int .i64 s1, .bool sr]) := zH (((Blk.newAt _ _ _ (by simp)).alloc _).to hb)
    have K2 : Hid (Blk w1 (w.heap.size + 1 + 1) #[.slice none 0 0, .int .i64 0, .int .i64 0, .int .i64 0, .slice none 0 0]) := zH ((Blk.newAt _ _ _ (by simp)).to hb)
    have HB := zH (bThen (bAlloc (bAlloc (bAlloc (bSelf w) _) _) _) hb)
    have HRD := zH hrd
    have hfr : ∀ q, al = some q → w.heap.size + 3 ≤ q.block := fun q hq => by have := hfr q hq; simp at this; omega
    have HFR := zH hfr
    clear hb hrd hpost hfr HO HQ
    go_wp2_with fail
    obtain ⟨W, hW⟩ : ∃ W, w1.alloc (.cells #[.slice a n cap, .int .i64 pump, .int .i64 on, .int .i64 off', .slice al n cl] 170) = W := ⟨_, rfl⟩
    rw [hW]
    have K3 : Hid (Blk W w1.heap.size #[.slice a n cap, .int .i64 pump, .int .i64 on, .int .i64 off', .slice al n cl]) := by subst hW; exact zH (Blk.new _ _ _)
    replace K1 : Hid (Blk W (w.heap.size + 1) #[.int .i64 s1, .bool sr]) := by subst hW; exact zH (K1.out.alloc _)
    replace K2 : Hid (Blk W (w.heap.size + 1 + 1) #[.slice none 0 0, .int .i64 0, .int .i64 0, .int .i64 0, .slice none 0 0]) := by subst hW; exact zH (K2.out.alloc _)
    replace HB : Hid (Below w.heap.size w W) := by subst hW; exact zH (bAlloc HB.out _)
    replace HRD : Hid (Reads W al (n * 2) (fracs p.pts)) := by subst hW; exact zH (HRD.out.alloc _)
    clear hW
    refine wp_region_quiet_all (fun w' => Below (World.heap W).size (W) w') (by kernel_rfl) (by kernel_rfl) (Below.refl _ _).drew ?_
    refine WQ.out ?_
    repeat (first | (refine WQ_no (by rfl) ?_; (simp only [Act.put, zzT, zzO, zzS])) | (refine WQ_yes (by rfl) ?_; apply Exists.intro; refine ⟨fun w1 hb1 => ?_, ?_⟩; (focus (((obtain ⟨-, k1, -⟩ := K1.out.to hb1; obtain ⟨-, k3, -⟩ := K3.out.to hb1); have hb1 := zH hb1; go_simp); (try (go_bits; try go_simp)); (try (rw [if_pos (by omega)]; try go_simp)); (first | done | ((first | (go_at_call 123; refine (HC.out _ al cl (HRD.out.to hb1.out)).mono ?_; rintro e w' ⟨rfl, hb⟩; exact ⟨rfl, bThen hb1.out hb⟩) | (go_at_call 99; refine (oWithin_any _ _ _ _).mono ?_; rintro e w' ⟨rfl, rfl⟩; exact ⟨rfl, hb1.out⟩) | (go_at_call 94; refine (oUnless_any _ _ _).mono ?_; rintro e w' ⟨rfl, rfl⟩; exact ⟨rfl, hb1.out⟩))) | (with_reducible rfl) | exact rfl))); (simp only [Act.put, zzT, zzO, zzS])))
    refine WQ_nil ?_
    intro w1 hb1
    replace K3 := zH (K3.out.to hb1)
    replace K2 := zH (K2.out.to hb1)
    replace HRD := zH (HRD.out.to hb1)
    replace HB := zH (bThen HB.out hb1)
    clear hb1 HC
    rw [← HE.out]
    obtain ⟨hs2, k2, f2⟩ := K2.out
    obtain ⟨hs3, k3, -⟩ := K3.out
    go_wp2_with fail
    have F := ((((K2.out.set 0 (.slice a n cap)).set 1 (.int .i64 pump)).set 2 (.int .i64 on)).set 3 (.int .i64 off')).set 4 (.slice al n cl)
    have F0 := F.2.1 0
    have F1 := F.2.1 1
    have F2 := F.2.1 2
    have F3 := F.2.1 3
    have F4 := F.2.1 4
    clear F k2 k3 f2
    have hne : ∀ b off, al = some ⟨b, off, none⟩ → b ≠ w.heap.size + 1 + 1 := fun b off e => by have := HFR.out _ e; dsimp only at this; omega
    refine bodyPost_ret (v := .tuple #[.agg #[.slice a n cap, .int .i64 pump, .int .i64 on, .int .i64 off', .slice al n cl], .int .i64 er]) ?_ rfl (HP.out _ _ _ ⟨al, cl, rfl, hcl, ?_, ?_, ?_⟩)
    · simp [results, Tryz.results106, go_sem, F0, F1, F2, F3, F4]
    · exact ((((HRD.out.other ⟨w.heap.size + 1 + 1, 0, none⟩ _ hne).other ⟨w.heap.size + 1 + 1, 1, none⟩ _ hne).other ⟨w.heap.size + 1 + 1, 2, none⟩ _ hne).other ⟨w.heap.size + 1 + 1, 3, none⟩ _ hne).other ⟨w.heap.size + 1 + 1, 4, none⟩ _ hne
    · exact ((((HB.out.setCell (p := ⟨w.heap.size + 1 + 1, 0, none⟩) (by simp; omega) _).setCell (p := ⟨w.heap.size + 1 + 1, 1, none⟩) (by simp; omega) _).setCell (p := ⟨w.heap.size + 1 + 1, 2, none⟩) (by simp; omega) _).setCell (p := ⟨w.heap.size + 1 + 1, 3, none⟩) (by simp; omega) _).setCell (p := ⟨w.heap.size + 1 + 1, 4, none⟩) (by simp; omega) _
    · intro q hq; have := HFR.out q hq; omega
  · have hc' : (ch == 0) = false := by rw [beq_eq_false_iff_ne]; exact hc
    have hE : er = ch := by have := HE.out; rw [if_neg hc] at this; exact this
    subst hE
    clear HC HE hc
    go_enter Tryz.func106, Tryz.ntmps106
    go_wp2_with fail
    refine (HO.out _ (bAlloc (bAlloc (bAlloc (bSelf w) _) _) _)).mono ?_
    intro e w1 hpost
    obtain ⟨al, cl, rfl, hcl, hrd, hb, hfr⟩ := HQ.out _ _ _ hpost
    have K2 : Hid (Blk w1 (w.heap.size + 1 + 1) #[.slice none 0 0, .int .i64 0, .int .i64 0, .int .i64 0, .slice none 0 0]) := zH ((Blk.newAt _ _ _ (by simp)).to hb)
    have HB := zH (bThen (bAlloc (bAlloc (bAlloc (bSelf w) _) _) _) hb)
    have HRD := zH hrd
    have hfr : ∀ q, al = some q → w.heap.size + 3 ≤ q.block := fun q hq => by have := hfr q hq; simp at this; omega
    have HFR := zH hfr
    clear hb hrd hpost hfr HO HQ
    obtain ⟨hs2, k2, f2⟩ := K2.out
    go_wp2_with fail
    have F := ((((((K2.out.set 0 (.slice a n cap)).set 1 (.int .i64 pump)).set 2 (.int .i64 on)).set 3 (.int .i64 off')).set 4 (.slice al n cl)).alloc (.cells #[.slice a n cap, .int .i64 pump, .int .i64 on, .int .i64 off', .slice al n cl] 170))
    have F0 := F.2.1 0
    have F1 := F.2.1 1
    have F2 := F.2.1 2
    have F3 := F.2.1 3
    have F4 := F.2.1 4
    clear F k2 f2
    have hne : ∀ b off, al = some ⟨b, off, none⟩ → b ≠ w.heap.size + 1 + 1 := fun b off e => by have := HFR.out _ e; dsimp only at this; omega
    refine bodyPost_ret (v := .tuple #[.agg #[.slice a n cap, .int .i64 pump, .int .i64 on, .int .i64 off', .slice al n cl], .int .i64 er]) ?_ rfl (HP.out _ _ _ ⟨al, cl, rfl, hcl, ?_, ?_, ?_⟩)
    · simp [results, Tryz.results106, go_sem, F0, F1, F2, F3, F4]
    · exact (((((HRD.out.other ⟨w.heap.size + 1 + 1, 0, none⟩ _ hne).other ⟨w.heap.size + 1 + 1, 1, none⟩ _ hne).other ⟨w.heap.size + 1 + 1, 2, none⟩ _ hne).other ⟨w.heap.size + 1 + 1, 3, none⟩ _ hne).other ⟨w.heap.size + 1 + 1, 4, none⟩ _ hne).alloc _
    · exact bAlloc (((((HB.out.setCell (p := ⟨w.heap.size + 1 + 1, 0, none⟩) (by simp; omega) _).setCell (p := ⟨w.heap.size + 1 + 1, 1, none⟩) (by simp; omega) _).setCell (p := ⟨w.heap.size + 1 + 1, 2, none⟩) (by simp; omega) _).setCell (p := ⟨w.heap.size + 1 + 1, 3, none⟩) (by simp; omega) _).setCell (p := ⟨w.heap.size + 1 + 1, 4, none⟩) (by simp; omega) _) _
    · intro q hq; have := HFR.out q hq; omega
end
section
open Go.RowKit

/-- A valve: drops, with the least and the most flow. -/
structure VlvOk (v : List (Int × Int × Int)) : Prop where
  lo : LinOk (v.map fun x => (x.1, x.2.1))
  hi : LinOk (v.map fun x => (x.1, x.2.2))
def lowV (v : List (Int × Int × Int)) : List (Int × Int) := v.map fun x => (x.1, x.2.1)
def uppV (v : List (Int × Int × Int)) : List (Int × Int) := v.map fun x => (x.1, x.2.2)
/-- The flows for a range of drops. -/
def flwA (v : List (Int × Int × Int)) (a b : Int) : Int × Int := (flQ (prQ (lowV v) a), clQ (prQ (uppV v) b))
/-- The valve of the examples. -/
def exV : List (Int × Int × Int) := [(0, 0, 0), (10, 8, 10), (30, 14, 20)]
end
section
open Go.RowKit
attribute [local go_sem] Oper.semAt_some

theorem Blk.c1 {w : World} {b : Nat} {cs : Array Value} (h : Blk w b cs) : ∀ (o1 : Obj) (o : Nat), (w.alloc o1).cell? ⟨b, o, none⟩ = cs[o]? := fun o1 o => (h.alloc o1).2.1 o
theorem Blk.c2 {w : World} {b : Nat} {cs : Array Value} (h : Blk w b cs) : ∀ (o1 o2 : Obj) (o : Nat), ((w.alloc o1).alloc o2).cell? ⟨b, o, none⟩ = cs[o]? := fun o1 o2 o => ((h.alloc o1).alloc o2).2.1 o
theorem Blk.f1 {w : World} {b : Nat} {cs : Array Value} (h : Blk w b cs) : ∀ (o1 : Obj) (o : Nat), (w.alloc o1).frozen? ⟨b, o, none⟩ = false := fun o1 o => (h.alloc o1).2.2 o
/-- What openState hands over, with the plant's parts named. -/
theorem OpsPost.ex {p : Plt} {a : Option Addr} {cap : Nat} {er : Int} {w : World} {e : Ending} {w' : World} (h : OpsPost p a cap er w e w') : ∃ al cl, e = .returned (.tuple #[.agg (plL p a cap al cl), .int .i64 er]) ∧ p.pts.length ≤ cl ∧ Reads w' al (p.pts.length * 2) (fracs p.pts) ∧ Below w.heap.size w w' ∧ ∀ q, al = some q → w.heap.size ≤ q.block := h
end
end Go.Proofs.YtjfedpblkejmkaaGreat
