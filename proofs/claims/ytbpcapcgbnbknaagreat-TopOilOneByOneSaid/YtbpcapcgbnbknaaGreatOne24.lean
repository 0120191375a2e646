/-
  Texts of this claim, in their build order: G6 OA7.
-/
import Derived.Test.YtbpcapcgbnbknaaGreatOne5
import Derived.Test.YtbpcapcgbnbknaaGreatOne7
import Derived.Lib.AppendZerosOnto
import Derived.Test.YtbpcapcgbnbknaaGreatOne23
import Derived.Lib.SmallJoins
import Derived.Test.YtbpcapcgbnbknaaGreatOne0

namespace Go.Proofs.YtbpcapcgbnbknaaGreat
section
set_option maxRecDepth 100000
open Go.ChangeShapes Go.WideShapes Go.ChangeAt Go.RowKit

theorem cellTypesOst : Tryz.prog.cellTypes Tryz.prog.depth 53 = some [3, 4] := by kernel_rfl
theorem open_ost {w : World} {base : Nat} {v : Value} (h : Value.okWide Tryz.prog w .any base 53 v) : ∃ s : Int × Bool, v = .agg #[.int .i64 s.1, .bool s.2] := by
  obtain ⟨fs, hu⟩ : ∃ fs, Tryz.prog.underlying 53 = some (.struct fs) := ⟨_, Tryz.underlying53⟩
  simp only [Value.okWide, hu] at h
  obtain ⟨cs, rfl, hs, hr⟩ := h
  obtain ⟨a, b, rfl⟩ := arr2 (hs.trans (show Tryz.prog.cellsOf 53 = 2 by kernel_rfl))
  obtain ⟨u0, hu0, hc0⟩ := row_at _ cellTypesOst hr (i := 0) (v := a) (by decide) rfl
  cases hu0
  obtain ⟨u1, hu1, hc1⟩ := row_at _ cellTypesOst hr (i := 1) (v := b) (by decide) rfl
  cases hu1
  obtain ⟨n0, rfl⟩ := cell_int Tryz.underlying3 hc0
  obtain ⟨n1, rfl⟩ := cell_bool Tryz.underlying4 hc1
  exact ⟨(n0, n1), rfl⟩

theorem point_of {H : Type} {enc : TypeId × Value → H} {W : World} {base fuel : Nat} {spare : Nat → Bool} {held : Bool} {cs : List Value} {y : DataW H × List MemPlace} (h : DataW.trod enc Tryz.prog W base spare held fuel 140 cs = some y) :
    ∃ p : Int × Int, cs = [.int .i64 p.1, .int .i64 p.2] := by
  obtain ⟨y0, y1, m, _, hl, h0, h1⟩ := trod_struct2 Tryz.underlying140 h
  have hl3 : cs.length = 2 := hl.trans (by kernel_rfl)
  have hc1 : Tryz.prog.cellsOf 3 = 1 := by kernel_rfl
  match cs, hl3 with
  | [a, b], _ =>
    simp only [hc1] at h0 h1
    obtain ⟨n0, e0, -, -⟩ := DataW.trod_int Tryz.underlying3 h0
    obtain ⟨n1, e1, -, -⟩ := DataW.trod_int Tryz.underlying3 h1
    simp at e0 e1
    exact ⟨(n0, n1), by rw [e0, e1]⟩

theorem open_points' {H : Type} {enc : TypeId × Value → H} {W : World} {fuel : Nat} {cs : List Value} {x : DataW H × List MemPlace} (hf : DataW.trod enc Tryz.prog W 0 (fun _ => true) true fuel 49 cs = some x) :
    ∃ (ms : List (Int × Int)) (a : Option Addr) (cap : Nat), cs = [.slice a ms.length cap] ∧ ms.length ≤ maxLen ∧ ms.length ≤ cap ∧ Reads W a (ms.length * 2) (fracs ms) := by
  rcases DataW.trod_slice Tryz.underlying49 hf with ⟨hcs, -⟩ | ⟨x, len0, cap0, elems, rest, n, _, hcs, _, hb, hl, hm, hlen, hel, -, -⟩
  · exact ⟨[], none, 0, hcs, Nat.zero_le _, Nat.zero_le _, .inl rfl⟩
  · have hc3 : Tryz.prog.cellsOf 140 = 2 := by kernel_rfl
    have hex : ∀ i : Nat, ∃ q : Int × Int, i < len0 → ∀ k, k < 2 → W.cell? (x.add (i * 2) |>.add k) = ([Value.int .i64 q.1, .int .i64 q.2] : List Value)[k]? := by
      intro i
      by_cases hi : i < len0
      · have h1 := hel i hi
        rw [hc3, List.getElem?_eq_getElem (by omega)] at h1
        obtain ⟨cs', hcs, hy⟩ := Option.bind_eq_some_iff.1 h1
        obtain ⟨q, rfl⟩ := point_of hy
        obtain ⟨-, -, h3⟩ := World.cells?_some hcs
        exact ⟨q, fun _ k hk => h3 k hk⟩
      · exact ⟨(0, 0), fun h => absurd h hi⟩
    obtain ⟨f, hf⟩ := Classical.axiomOfChoice hex
    have hml : ((List.range len0).map f).length = len0 := by simp
    have hg : ∀ i, i < len0 → fg ((List.range len0).map f) i = f i := fun i hi => by
      unfold fg
      rw [List.getD_eq_getElem?_getD, List.getElem?_map, List.getElem?_range (by omega)]
      rfl
    refine ⟨(List.range len0).map f, some x, cap0, by rw [hml]; exact hcs, by rw [hml]; omega, by rw [hml]; exact hl, ?_⟩
    rw [hml]
    by_cases h0 : len0 = 0
    · exact .inl (by rw [h0])
    · have hc := hf 0 (by omega) 0 (by omega)
      obtain ⟨b, off, spot⟩ := x
      have hspot : spot = none := by simpa [Addr.add] using World.cell?_spot hc
      subst hspot
      have hadd : ∀ i j, ((⟨b, off, none⟩ : Addr).add i).add j = ⟨b, off + (i + j), none⟩ := by intro i j; unfold Addr.add; split <;> split <;> simp_all <;> omega
      refine .inr ⟨b, off, rfl, ?_, fun i hi => ?_⟩
      · have := cell_lt hc; rwa [hadd] at this
      · have h3 := hf (i / 2) (by omega) (i % 2) (Nat.mod_lt _ (by decide))
        rw [hadd, show i / 2 * 2 + i % 2 = i by omega] at h3
        rw [h3]
        unfold fracs
        rw [hg _ (by omega)]
        have hcase : i % 2 = 0 ∨ i % 2 = 1 := by omega
        rcases hcase with h | h <;> rw [h] <;> rfl

theorem arr4 {cs : Array Value} (h : cs.size = 4) : ∃ a b c d, cs = #[a, b, c, d] := by
  obtain ⟨l⟩ := cs
  match l, h with
  | [a, b, c, d], _ => exact ⟨a, b, c, d, rfl⟩
theorem open_plt {H : Type} {enc : TypeId × Value → H} {W : World} {v : Value} {d : DataW H} {p : List MemPlace} {base : Nat} (hv : Value.okWide Tryz.prog W .any base 51 v) (h : DataW.Trod enc Tryz.prog W 0 (fun _ => true) true 51 v d p) :
    ∃ (x : Plt) (a : Option Addr) (cap : Nat), v = .agg (plC x a cap) ∧ x.pts.length ≤ maxLen ∧ Reads W a (x.pts.length * 2) (fracs x.pts) := by
  obtain ⟨fs, hu⟩ : ∃ fs, Tryz.prog.underlying 51 = some (.struct fs) := ⟨_, Tryz.underlying51⟩
  simp only [Value.okWide, hu] at hv
  obtain ⟨cs, rfl, hs, -⟩ := hv
  obtain ⟨a, b, c, d, rfl⟩ := arr4 (hs.trans (show Tryz.prog.cellsOf 51 = 4 by kernel_rfl))
  obtain ⟨fuel, hf⟩ := h
  obtain ⟨y0, y1, y2, y3, m, _, -, h0, h1, h2, h3⟩ := Go.Joins.trod_struct4 Tryz.underlying51 hf
  have hc1 : Tryz.prog.cellsOf 49 = 1 := by kernel_rfl
  have hc2 : Tryz.prog.cellsOf 3 = 1 := by kernel_rfl
  simp only [hc1, hc2] at h0 h1 h2 h3
  obtain ⟨zs, a1, c1, e0, l0, -, r0⟩ := open_points' h0
  obtain ⟨n1, e1, -, -⟩ := DataW.trod_int Tryz.underlying3 h1
  obtain ⟨n2, e2, -, -⟩ := DataW.trod_int Tryz.underlying3 h2
  obtain ⟨n3, e3, -, -⟩ := DataW.trod_int Tryz.underlying3 h3
  simp [Value.cells] at e0 e1 e2 e3
  exact ⟨⟨zs, n1, n2, n3⟩, a1, c1, by rw [e0, e1, e2, e3], l0, r0⟩
end
section
open Go.RowKit
attribute [local go_sem] Oper.semAt_some

theorem firstE2 {a b : Int} : firstE [a, b] = 0 ↔ a = 0 ∧ b = 0 := by
  unfold firstE firstE firstE
  by_cases h : a = 0
  · rw [if_pos h]; by_cases h2 : b = 0
    · rw [if_pos h2]; exact ⟨fun _ => ⟨h, h2⟩, fun _ => rfl⟩
    · rw [if_neg h2]; exact ⟨fun e => absurd e h2, fun e => absurd e.2 h2⟩
  · rw [if_neg h]; exact ⟨fun e => absurd e h, fun e => absurd e.1 h⟩
theorem unlZ {b : Bool} {k : Int} (hk : k ≠ 0) : unl b k = 0 ↔ b = true := by
  unfold unl; cases b
  · simp [hk]
  · simp
theorem wthn_iff {n lo hi : Int} : wthn n lo hi = true ↔ lo ≤ n ∧ n ≤ hi := by unfold wthn; simp
theorem eachR_ok {err : Nat → Int} : ∀ (n k : Nat), (eachR err k n).2 = 0 → ∀ j, k ≤ j → j < k + n → err j = 0
  | 0, _, _, _, _, _ => by omega
  | n + 1, k, h, j, h1, h2 => by
    unfold eachR at h
    by_cases h0 : err k = 0
    · rw [if_pos h0] at h
      by_cases hj : j = k
      · rw [hj]; exact h0
      · exact eachR_ok n (k + 1) h j (by omega) (by omega)
    · rw [if_neg h0] at h; exact absurd h h0
/-- A plant without an error is a valid one. -/
theorem chP_ok {p : Plt} (h : (chP p).2 = 0) : PltOk p := by
  unfold chP at h
  by_cases h1 : fewE p.pts.length ≠ 0
  · rw [if_pos h1] at h; exact absurd h h1
  · rw [if_neg h1] at h
    have h1' : fewE p.pts.length = 0 := by simpa using h1
    by_cases h2 : (eachR (ptE p.pts) 0 p.pts.length).2 ≠ 0
    · rw [if_pos h2] at h; exact absurd h h2
    · rw [if_neg h2] at h
      have h2' : (eachR (ptE p.pts) 0 p.pts.length).2 = 0 := by simpa using h2
      have h3 : pltE p = 0 := h
      obtain ⟨f1, f2⟩ := firstE2.1 (show firstE [_, _] = 0 from h1')
      rw [unlZ (by decide), decide_eq_true_eq] at f1 f2
      obtain ⟨g1, g2⟩ := firstE2.1 (show firstE [_, _] = 0 from h3)
      rw [unlZ (by decide)] at g1 g2
      simp only [Bool.and_eq_true, wthn_iff, decide_eq_true_eq] at g1 g2
      have hp : ∀ k, k < p.pts.length → (wthn (fg p.pts k).1 0 200 = true ∧ wthn (fg p.pts k).2 0 1000 = true) ∧ ordB p.pts k = true := fun k hk => by
        have := eachR_ok _ _ h2' k (by omega) (by omega)
        obtain ⟨k1, k2⟩ := firstE2.1 (show firstE [_, _] = 0 from this)
        rw [unlZ (by decide)] at k1 k2
        simp only [Bool.and_eq_true] at k1
        exact ⟨k1, k2⟩
      refine ⟨⟨by omega, by omega, ?_, fun k hk => wthn_iff.1 (hp k hk).1.1, fun k hk => wthn_iff.1 (hp k hk).1.2, fun k hk => ?_⟩, g1.1.1, g1.1.2, g1.2, g2⟩
      · have := (hp 0 (by omega)).2
        unfold ordB at this
        rw [if_pos rfl] at this
        simpa using this
      · have := (hp (k + 1) hk).2
        unfold ordB at this
        rw [if_neg (by omega), Nat.add_sub_cancel] at this
        simpa using this

/-- The error of a plant and a state. -/
def opSE (p : Plt) (v : Int) : Int := if (chP p).2 = 0 then unl (decide (0 ≤ v) && decide (v ≤ capV p.pts)) 2 else (chP p).2
theorem opSE_ok {p : Plt} {s : OSt} (h : opSE p s.1 = 0) : PltOk p ∧ StOk p s := by
  unfold opSE at h
  by_cases h1 : (chP p).2 = 0
  · rw [if_pos h1, unlZ (by decide)] at h
    exact ⟨chP_ok h1, by simpa [StOk] using h⟩
  · rw [if_neg h1] at h; exact absurd h h1

def OpsPost (p : Plt) (a : Option Addr) (cap : Nat) (er : Int) (w : World) (e : Ending) (w' : World) : Prop :=
  ∃ al cl, e = .returned (.tuple #[.agg (plL p a cap al cl), .int .i64 er]) ∧ p.pts.length ≤ cl ∧ Reads w' al (p.pts.length * 2) (fracs p.pts) ∧ Below w.heap.size w w' ∧ ∀ q, al = some q → w.heap.size ≤ q.block

set_option maxHeartbeats 3200000 in
set_option maxRecDepth 100000 in
theorem openState_any (p : Plt) (s : OSt) (a : Option Addr) (cap : Nat) (w : World) (hlen : p.pts.length ≤ 1000) (hr : Reads w a (p.pts.length * 2) (fracs p.pts)) :
    Calls Tryz.prog 78 #[.agg (plC p a cap), .agg #[.int .i64 s.1, .bool s.2]] w (OpsPost p a cap (opSE p s.1) w) := by
  have HO := zH (fun W (hb : Below w.heap.size w W) => open_any p a cap W hlen (hr.to hb))
  have HE : Hid (opSE p s.1 = if (chP p).2 = 0 then unl (decide (0 ≤ s.1) && decide (s.1 ≤ capV p.pts)) 2 else (chP p).2) := zH rfl
  have HC := zH (fun W al cl (h0 : (chP p).2 = 0) hr => capacity_any p a al cap cl W (by have := (chP_ok h0).pts.two; omega) (by omega) hr)
  obtain ⟨ch, hch⟩ : ∃ e, (chP p).2 = e := ⟨_, rfl⟩
  obtain ⟨er, her⟩ : ∃ e, opSE p s.1 = e := ⟨_, rfl⟩
  rw [hch] at HE HC
  rw [her] at HE ⊢
  obtain ⟨n, hn⟩ : ∃ n, p.pts.length = n := ⟨_, rfl⟩
  have HP : Hid (∀ w e w', (∃ al cl, e = .returned (.tuple #[.agg #[.slice a n cap, .int .i64 p.pump, .int .i64 p.on, .int .i64 p.off, .slice al n cl], .int .i64 er]) ∧ n ≤ cl ∧ Reads w' al (n * 2) (fracs p.pts) ∧ Below w.heap.size w w' ∧ ∀ q, al = some q → w.heap.size ≤ q.block) → OpsPost p a cap er w e w') := zH (fun w e w' h => by rw [← hn] at h; exact h)
  have HQ : Hid (∀ w e w', OpnPost p a cap w e w' → ∃ al cl, e = .returned (.tuple #[.agg #[.slice a n cap, .int .i64 p.pump, .int .i64 p.on, .int .i64 p.off, .slice al n cl], .int .i64 ch]) ∧ n ≤ cl ∧ Reads w' al (n * 2) (fracs p.pts) ∧ Below w.heap.size w w' ∧ ∀ q, al = some q → w.heap.size ≤ q.block) := zH (fun w e w' h => by unfold OpnPost plL at h; rw [hn, hch] at h; exact h)
  clear her hr hch
  obtain ⟨s1, sr⟩ := s
  dsimp only at HE ⊢
  unfold plC at HO ⊢
  obtain ⟨pump, hpump⟩ : ∃ e, p.pump = e := ⟨_, rfl⟩
  obtain ⟨on, hon⟩ : ∃ e, p.on = e := ⟨_, rfl⟩
  obtain ⟨off', hoff⟩ : ∃ e, p.off = e := ⟨_, rfl⟩
  obtain ⟨C, hC⟩ : ∃ c, capV p.pts = c := ⟨_, rfl⟩
  unfold plL at HC
  rw [hn, hpump, hon, hoff] at HO HC ⊢
  rw [hC] at HC HE
  rw [hpump, hon, hoff] at HP HQ
  clear hn hpump hon hoff hC
  by_cases hc : ch = 0
  · subst hc
    rw [if_pos rfl] at HE
    replace HC := zH (fun W al cl hr => HC.out W al cl rfl hr)
    go_enter Tryz.func78, Tryz.ntmps78
    go_wp2_with fail
    refine (HO.out _ (bAlloc (bAlloc (bAlloc (bSelf w) _) _) _)).mono ?_
    intro e w1 hpost
    obtain ⟨al, cl, rfl, hcl, hrd, hb, hfr⟩ := HQ.out _ _ _ hpost
    have K1 : Hid (Blk w1 (w.heap.size + 1) #[.int .i64 s1, .bool sr]) := zH (((Blk.newAt _ _ _ (by simp)).alloc _).to hb)
    have K2 : Hid (Blk w1 (w.heap.size + 1 + 1) #[.slice none 0 0, .int .i64 0, .int .i64 0, .int .i64 0, .slice none 0 0]) := zH ((Blk.newAt _ _ _ (by simp)).to hb)
    have HB := zH (bThen (bAlloc (bAlloc (bAlloc (bSelf w) _) _) _) hb)
    have HRD := zH hrd
    have hfr : ∀ q, al = some q → w.heap.size + 3 ≤ q.block := fun q hq => by have := hfr q hq; simp at this; omega
    have HFR := zH hfr
    clear hb hrd hpost hfr HO HQ
    go_wp2_with fail
    obtain ⟨W, hW⟩ : ∃ W, w1.alloc (.cells #[.slice a n cap, .int .i64 pump, .int .i64 on, .int .i64 off', .slice al n cl] 145) = W := ⟨_, rfl⟩
    rw [hW]
    have K3 : Hid (Blk W w1.heap.size #[.slice a n cap, .int .i64 pump, .int .i64 on, .int .i64 off', .slice al n cl]) := by subst hW; exact zH (Blk.new _ _ _)
    replace K1 : Hid (Blk W (w.heap.size + 1) #[.int .i64 s1, .bool sr]) := by subst hW; exact zH (K1.out.alloc _)
    replace K2 : Hid (Blk W (w.heap.size + 1 + 1) #[.slice none 0 0, .int .i64 0, .int .i64 0, .int .i64 0, .slice none 0 0]) := by subst hW; exact zH (K2.out.alloc _)
    replace HB : Hid (Below w.heap.size w W) := by subst hW; exact zH (bAlloc HB.out _)
    replace HRD : Hid (Reads W al (n * 2) (fracs p.pts)) := by subst hW; exact zH (HRD.out.alloc _)
    clear hW
    refine wp_region_quiet_all (fun w' => Below (World.heap W).size (W) w') (by kernel_rfl) (by kernel_rfl) (Below.refl _ _).drew ?_
    refine WQ.out ?_
    repeat (first | (refine WQ_no (by rfl) ?_; (simp only [Act.put, zzT, zzO, zzS])) | (refine WQ_yes (by rfl) ?_; apply Exists.intro; refine ⟨fun w1 hb1 => ?_, ?_⟩; (focus (((obtain ⟨-, k1, -⟩ := K1.out.to hb1; obtain ⟨-, k3, -⟩ := K3.out.to hb1); have hb1 := zH hb1; go_simp); (try (go_bits; try go_simp)); (try (rw [if_pos (by omega)]; try go_simp)); (first | done | ((first | (go_at_call 124; refine (HC.out _ al cl (HRD.out.to hb1.out)).mono ?_; rintro e w' ⟨rfl, hb⟩; exact ⟨rfl, bThen hb1.out hb⟩) | (go_at_call 123; refine (oWithin_any _ _ _ _).mono ?_; rintro e w' ⟨rfl, rfl⟩; exact ⟨rfl, hb1.out⟩) | (go_at_call 80; refine (oUnless_any _ _ _).mono ?_; rintro e w' ⟨rfl, rfl⟩; exact ⟨rfl, hb1.out⟩))) | (with_reducible rfl) | exact rfl))); (simp only [Act.put, zzT, zzO, zzS])))
    refine WQ_nil ?_
    intro w1 hb1
    replace K3 := zH (K3.out.to hb1)
    replace K2 := zH (K2.out.to hb1)
    replace HRD := zH (HRD.out.to hb1)
    replace HB := zH (bThen HB.out hb1)
    clear hb1 HC
    rw [← HE.out]
    obtain ⟨hs2, k2, f2⟩ := K2.out
    obtain ⟨hs3, k3, -⟩ := K3.out
    go_wp2_with fail
    have F := ((((K2.out.set 0 (.slice a n cap)).set 1 (.int .i64 pump)).set 2 (.int .i64 on)).set 3 (.int .i64 off')).set 4 (.slice al n cl)
    have F0 := F.2.1 0
    have F1 := F.2.1 1
    have F2 := F.2.1 2
    have F3 := F.2.1 3
    have F4 := F.2.1 4
    clear F k2 k3 f2
    have hne : ∀ b off, al = some ⟨b, off, none⟩ → b ≠ w.heap.size + 1 + 1 := fun b off e => by have := HFR.out _ e; dsimp only at this; omega
    refine bodyPost_ret (v := .tuple #[.agg #[.slice a n cap, .int .i64 pump, .int .i64 on, .int .i64 off', .slice al n cl], .int .i64 er]) ?_ rfl (HP.out _ _ _ ⟨al, cl, rfl, hcl, ?_, ?_, ?_⟩)
    · simp [results, Tryz.results78, go_sem, F0, F1, F2, F3, F4]
    · exact ((((HRD.out.other ⟨w.heap.size + 1 + 1, 0, none⟩ _ hne).other ⟨w.heap.size + 1 + 1, 1, none⟩ _ hne).other ⟨w.heap.size + 1 + 1, 2, none⟩ _ hne).other ⟨w.heap.size + 1 + 1, 3, none⟩ _ hne).other ⟨w.heap.size + 1 + 1, 4, none⟩ _ hne
    · exact ((((HB.out.setCell (p := ⟨w.heap.size + 1 + 1, 0, none⟩) (by simp; omega) _).setCell (p := ⟨w.heap.size + 1 + 1, 1, none⟩) (by simp; omega) _).setCell (p := ⟨w.heap.size + 1 + 1, 2, none⟩) (by simp; omega) _).setCell (p := ⟨w.heap.size + 1 + 1, 3, none⟩) (by simp; omega) _).setCell (p := ⟨w.heap.size + 1 + 1, 4, none⟩) (by simp; omega) _
    · intro q hq; have := HFR.out q hq; omega
  · have hc' : (ch == 0) = false := by rw [beq_eq_false_iff_ne]; exact hc
    have hE : er = ch := by have := HE.out; rw [if_neg hc] at this; exact this
    subst hE
    clear HC HE hc
    go_enter Tryz.func78, Tryz.ntmps78
    go_wp2_with fail
    refine (HO.out _ (bAlloc (bAlloc (bAlloc (bSelf w) _) _) _)).mono ?_
    intro e w1 hpost
    obtain ⟨al, cl, rfl, hcl, hrd, hb, hfr⟩ := HQ.out _ _ _ hpost
    have K2 : Hid (Blk w1 (w.heap.size + 1 + 1) #[.slice none 0 0, .int .i64 0, .int .i64 0, .int .i64 0, .slice none 0 0]) := zH ((Blk.newAt _ _ _ (by simp)).to hb)
    have HB := zH (bThen (bAlloc (bAlloc (bAlloc (bSelf w) _) _) _) hb)
    have HRD := zH hrd
    have hfr : ∀ q, al = some q → w.heap.size + 3 ≤ q.block := fun q hq => by have := hfr q hq; simp at this; omega
    have HFR := zH hfr
    clear hb hrd hpost hfr HO HQ
    obtain ⟨hs2, k2, f2⟩ := K2.out
    go_wp2_with fail
    have F := ((((((K2.out.set 0 (.slice a n cap)).set 1 (.int .i64 pump)).set 2 (.int .i64 on)).set 3 (.int .i64 off')).set 4 (.slice al n cl)).alloc (.cells #[.slice a n cap, .int .i64 pump, .int .i64 on, .int .i64 off', .slice al n cl] 145))
    have F0 := F.2.1 0
    have F1 := F.2.1 1
    have F2 := F.2.1 2
    have F3 := F.2.1 3
    have F4 := F.2.1 4
    clear F k2 f2
    have hne : ∀ b off, al = some ⟨b, off, none⟩ → b ≠ w.heap.size + 1 + 1 := fun b off e => by have := HFR.out _ e; dsimp only at this; omega
    refine bodyPost_ret (v := .tuple #[.agg #[.slice a n cap, .int .i64 pump, .int .i64 on, .int .i64 off', .slice al n cl], .int .i64 er]) ?_ rfl (HP.out _ _ _ ⟨al, cl, rfl, hcl, ?_, ?_, ?_⟩)
    · simp [results, Tryz.results78, go_sem, F0, F1, F2, F3, F4]
    · exact (((((HRD.out.other ⟨w.heap.size + 1 + 1, 0, none⟩ _ hne).other ⟨w.heap.size + 1 + 1, 1, none⟩ _ hne).other ⟨w.heap.size + 1 + 1, 2, none⟩ _ hne).other ⟨w.heap.size + 1 + 1, 3, none⟩ _ hne).other ⟨w.heap.size + 1 + 1, 4, none⟩ _ hne).alloc _
    · exact bAlloc (((((HB.out.setCell (p := ⟨w.heap.size + 1 + 1, 0, none⟩) (by simp; omega) _).setCell (p := ⟨w.heap.size + 1 + 1, 1, none⟩) (by simp; omega) _).setCell (p := ⟨w.heap.size + 1 + 1, 2, none⟩) (by simp; omega) _).setCell (p := ⟨w.heap.size + 1 + 1, 3, none⟩) (by simp; omega) _).setCell (p := ⟨w.heap.size + 1 + 1, 4, none⟩) (by simp; omega) _) _
    · intro q hq; have := HFR.out q hq; omega
end
end Go.Proofs.YtbpcapcgbnbknaaGreat
