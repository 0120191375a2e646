/-
  Texts of this claim, in their build order: OL4 OM25 OM26 OR18.
-/
import Derived.Test.YtjfedpblkejmkaaGreatSfy42
import Derived.Test.YtjfedpblkejmkaaGreatSfy46
import Derived.Test.YtjfedpblkejmkaaGreatSfy24
import Derived.Test.YtjfedpblkejmkaaGreatSfy41
import Derived.Test.YtjfedpblkejmkaaGreatSfy37
import Derived.Test.YtjfedpblkejmkaaGreatSfy29
import Derived.Test.YtjfedpblkejmkaaGreatSfy18

/-
  OilRuns.
-/
namespace Go.Proofs.YtjfedpblkejmkaaGreat
open Go.RowKit
attribute [local go_sem] Oper.semAt_some

theorem lFew_any (p : Plt) (a : Option Addr) (cap : Nat) (w : World) :
    Calls Tryz.prog 23 #[.agg (plC p a cap)] w fun e w' => e = .returned (.bool (decide ((p.pts.length : Int) ≤ 10))) ∧ Below w.heap.size w w' := by
  obtain ⟨l, pump, on, off⟩ := p
  unfold plC
  dsimp only
  obtain ⟨n, hn⟩ : ∃ n, l.length = n := ⟨_, rfl⟩
  rw [hn]
  clear hn
  go_enter Tryz.func23, Tryz.ntmps23
  go_wp2_with fail
  go_ret
  exact ⟨rfl, bAlloc (bSelf w) _⟩

end Go.Proofs.YtjfedpblkejmkaaGreat

/-
  CheckSafe.
-/
namespace Go.Proofs.YtjfedpblkejmkaaGreat
open Go.RowKit
attribute [local go_sem] Oper.semAt_some

/-- The error of a state of a set that is to be safe, ahead of the judgement. -/
def csE (p : Plt) (L : List OSt) (k : Nat) : Int := firstE [unl (wthn (sg L k).1 0 (capV p.pts)) 2, unl (decide (k = 0) || decide (ordI (sg L (k - 1)) (sg L k) < 0)) 9]
/-- CheckSafe's answer. -/
def csR (p : Plt) (r : Int × Int) (lim : Int) (L : List OSt) : Int × Int :=
  if opRE p r lim = 0 then (if (eachR (csE p L) 0 L.length).2 = 0 then eachR (fun k => jdg p r lim (sg L k) (inS L)) 0 L.length else eachR (csE p L) 0 L.length) else (0, opRE p r lim)

structure CsI (L : List OSt) (W2 : World) (k : Nat) (W : World) : Prop where
  be : Below W2.heap.size W2 W
  bx : Blk W (W2.heap.size + 1) #[.map (some W2.heap.size)]
  st : SetW W W2.heap.size k (inS (L.take k))
theorem CsI.to {L : List OSt} {W2 : World} {k : Nat} {W W' : World} (h : CsI L W2 k W) (hb : Below W.heap.size W W') : CsI L W2 k W' := ⟨bThen h.be hb, h.bx.to hb, h.st.to hb⟩
theorem inS_snoc (l : List OSt) (s x : OSt) : (inS l x || x == s) = inS (l ++ [s]) x := by
  unfold inS
  rw [List.any_append]
  congr 1
  simp only [List.any_cons, List.any_nil, Bool.or_false]
  by_cases h : x = s
  · subst h; rfl
  · have h1 : (x == s) = false := by simpa using h
    have h2 : (s == x) = false := by simpa using fun e => h e.symm
    rw [h1, h2]
theorem sg_take {l : List OSt} {k : Nat} (h : k < l.length) : l.take (k + 1) = l.take k ++ [sg l k] := by
  rw [List.take_succ_eq_append_getElem h]
  unfold sg
  rw [List.getD_eq_getElem?_getD, List.getElem?_eq_getElem h]
  rfl

set_option maxHeartbeats 6400000 in
set_option maxRecDepth 100000 in
theorem cs1_any (p : Plt) (L : List OSt) (k : Nat) (hk : k < L.length) (W2 W : World) (a al ax : Option Addr) (cap cl cx B10 B7 : Nat) (hp : PltOk p) (hw : StW (sg L k)) (hlen : L.length ≤ 1000) (h : CsI L W2 k W)
    (K10 : Blk W2 B10 (plL p a cap al cl)) (K7 : Blk W2 B7 #[.slice ax L.length cx]) (hrl : Reads W2 al (p.pts.length * 2) (fracs p.pts)) (hrx : Reads W2 ax (L.length * 2) (osts L)) :
    Calls Tryz.prog 128 (#[.int .i64 k, .agg #[.int .i64 (sg L k).1, .bool (sg L k).2]] ++ #[.pointer (some ⟨W2.heap.size + 1, 0, none⟩), .pointer (some ⟨B10, 0, none⟩), .pointer (some ⟨B7, 0, none⟩)]) W
      fun e w'' => e = .returned (.int .i64 (csE p L k)) ∧ CsI L W2 (k + 1) w'' := by
  have hpt := hp.pts.two
  have hpf := hp.pts.few
  have HCP := Lib.hid (fun W (hb : Below W2.heap.size W2 W) => capacity_any p a al cap cl W (by omega) (by omega) (hrl.to hb))
  have HE : Hid (firstE [unl (wthn (sg L k).1 0 (capV p.pts)) 2, unl (decide (k = 0) || decide (ordI (sg L (k - 1)) (sg L k) < 0)) 9] = csE p L k) := Lib.hid rfl
  have HIS : Hid (∀ x, (inS (L.take k) x || x == sg L k) = inS (L.take (k + 1)) x) := Lib.hid (fun x => (inS_snoc (L.take k) (sg L k) x).trans (by rw [sg_take hk]))
  have HXR := Lib.hid hrx
  obtain ⟨er, her⟩ : ∃ e, csE p L k = e := ⟨_, rfl⟩
  rw [her] at HE ⊢
  obtain ⟨C, hC⟩ : ∃ c, capV p.pts = c := ⟨_, rfl⟩
  rw [hC] at HCP HE
  obtain ⟨⟨s1, s2⟩, hs⟩ : ∃ s, sg L k = s := ⟨_, rfl⟩
  rw [hs] at HE HIS hw ⊢
  dsimp only at HE ⊢
  have hwt : ((#[.int .i64 (k : Int), .agg #[.int .i64 s1, .bool s2]] : Array Value) ++ #[.pointer (some ⟨W2.heap.size + 1, 0, none⟩), .pointer (some ⟨B10, 0, none⟩), .pointer (some ⟨B7, 0, none⟩)]) = #[.int .i64 (k : Int), .agg #[.int .i64 s1, .bool s2], .pointer (some ⟨W2.heap.size + 1, 0, none⟩), .pointer (some ⟨B10, 0, none⟩), .pointer (some ⟨B7, 0, none⟩)] := rfl
  rw [hwt]
  obtain ⟨b1, hb1'⟩ : ∃ b, wthn s1 0 C = b := ⟨_, rfl⟩
  have HB1 := Lib.hid hb1'
  rw [hb1'] at HE
  have KK10 := Lib.hid K10
  have KK7 := Lib.hid K7
  obtain ⟨W1, hW1⟩ : ∃ W1, W.alloc (.cells #[.int .i64 s1, .bool s2] 46) = W1 := ⟨_, rfl⟩
  have HI1 : Hid (CsI L W2 k W1) := by subst hW1; exact Lib.hid (h.to (bAlloc (bSelf _) _))
  have K6 : Hid (Blk W1 W.heap.size #[.int .i64 s1, .bool s2]) := by subst hW1; exact Lib.hid (Blk.new _ _ _)
  have HSB : Hid (W2.heap.size + 1 < W.heap.size) := Lib.hid h.bx.1
  obtain ⟨u1, hrun1, hs1, hg1⟩ := HI1.out.st.put hw (by unfold maxLen; omega)
  dsimp only [stV] at hrun1
  have K6u : Hid (Blk u1 W.heap.size #[.int .i64 s1, .bool s2]) := Lib.hid (blk_grown K6.out hg1 (fun e => by injection e with e; have := HSB.out; omega))
  have hbeu : Below W2.heap.size W2 u1 := HI1.out.be.grown hg1 (by have := HI1.out.bx.1; omega) (fun j e => by cases e; exact Nat.le_refl _)
  have HIU : Hid (CsI L W2 (k + 1) u1) := Lib.hid ⟨hbeu, blk_grown HI1.out.bx hg1 (fun e => by injection e with e; omega), hs1.ext HIS.out⟩
  have hsz1 := hg1.size
  clear hs hw hC her hb1' h K10 K7 hrl hrx hs1 hg1 hbeu HIS hwt
  obtain ⟨-, kb, -⟩ := HI1.out.bx
  obtain ⟨-, k6, -⟩ := K6.out
  by_cases hk0 : k = 0
  · subst hk0
    rw [decide_eq_true rfl, Bool.true_or] at HE
    go_enter Tryz.func128, Tryz.ntmps128
    go_upto_region 1 with (fail)
    go_wp2_with fail
    clear kb k6 hrun1
    refine wp_region_quiet_tail 20 (fun w' => Below (World.heap u1).size (u1) w') (by kernel_rfl) (by kernel_rfl) (Below.refl _ _).drew ?_
    simp only [List.take_succ_cons, List.take_zero, List.drop_succ_cons, List.drop_zero]
    refine WQ.out ?_
    repeat (first | (refine WQ_no (by rfl) ?_; (simp only [Act.put, List.setIfInBounds_toArray, List.set_cons_zero, List.set_cons_succ])) | (refine WQ_yes (by rfl) ?_; apply Exists.intro; refine ⟨fun w1 hb1 => ?_, ?_⟩; (focus (((obtain ⟨-, k6, -⟩ := K6u.out.to hb1; obtain ⟨-, k10, -⟩ := (KK10.out.to HIU.out.be).to hb1); have hb1 := Lib.hid hb1; go_simp); (try (go_bits; try go_simp)); (try (rw [if_pos (by omega)]; try go_simp)); (first | done | ((first | (go_at_call 123; refine (HCP.out _ (bThen HIU.out.be hb1.out)).mono ?_; rintro e w' ⟨rfl, hb⟩; exact ⟨rfl, bThen hb1.out hb⟩) | (go_at_call 99; refine (oWth_any _ _ _ _).mono ?_; rintro e w' ⟨rfl, rfl⟩; rw [HB1.out]; exact ⟨rfl, hb1.out⟩) | (go_at_call 94; refine (oUnless_any _ _ _).mono ?_; rintro e w' ⟨rfl, rfl⟩; exact ⟨rfl, hb1.out⟩))) | (with_reducible rfl) | exact rfl))); (simp only [Act.put, List.setIfInBounds_toArray, List.set_cons_zero, List.set_cons_succ])))
    refine WQ_nil ?_
    intro w1 hb1
    go_wp2_with fail
    refine (oFirst2_new _ _ _ _ (by simp)).mono ?_
    rintro e w' ⟨rfl, rfl⟩
    go_wp2_with fail
    go_ret
    exact ⟨ret_int (by rw [← HE.out]), HIU.out.to (bAlloc hb1 _)⟩
  · obtain ⟨j, rfl⟩ : ∃ j, k = j + 1 := ⟨k - 1, by omega⟩
    rw [decide_eq_false hk0, Bool.false_or, Nat.add_sub_cancel] at HE
    obtain ⟨⟨t1, t2⟩, ht⟩ : ∃ s, sg L j = s := ⟨_, rfl⟩
    rw [ht] at HE
    obtain ⟨bb, off, rfl, hbb, hcc⟩ := (HXR.out.to HIU.out.be).at (k := j * 2) (by omega)
    have E0 : Hid (u1.cell? ⟨bb, off + j * 2, none⟩ = some (.int .i64 t1)) := Lib.hid (by have := hcc (j * 2) (by omega); rw [osts0, ht] at this; exact this)
    have E1 : Hid (u1.cell? ⟨bb, off + j * 2 + 1, none⟩ = some (.bool t2)) := Lib.hid (by have := hcc (j * 2 + 1) (by omega); rw [osts1, ht] at this; exact this)
    have HOR := Lib.hid (fun W => order_any (t1, t2) (s1, s2) W)
    obtain ⟨oi, hoi⟩ : ∃ x, ordI (t1, t2) (s1, s2) = x := ⟨_, rfl⟩
    rw [hoi] at HE HOR
    dsimp only at HOR
    have hjn : j < L.length := by omega
    have hj1 : ((j + 1 : Nat) : Int) - 1 = (j : Int) := by omega
    clear hoi ht hcc
    go_enter Tryz.func128, Tryz.ntmps128
    go_upto_region 1 with (fail)
    go_wp2_with fail
    clear kb k6 hrun1
    refine wp_region_quiet_tail 20 (fun w' => Below (World.heap u1).size (u1) w') (by kernel_rfl) (by kernel_rfl) (Below.refl _ _).drew ?_
    simp only [List.take_succ_cons, List.take_zero, List.drop_succ_cons, List.drop_zero]
    refine WQ.out ?_
    iterate 12 (first | (refine WQ_no (by rfl) ?_; (simp only [Act.put, List.setIfInBounds_toArray, List.set_cons_zero, List.set_cons_succ])) | (refine WQ_yes (by rfl) ?_; apply Exists.intro; refine ⟨fun w1 hb1 => ?_, ?_⟩; (focus (((obtain ⟨-, k6, -⟩ := K6u.out.to hb1; obtain ⟨-, k10, -⟩ := (KK10.out.to HIU.out.be).to hb1; obtain ⟨-, k7, -⟩ := (KK7.out.to HIU.out.be).to hb1; have e0 := (hb1.cell (p := ⟨bb, off + j * 2, none⟩) hbb).trans E0.out; have e1 := (hb1.cell (p := ⟨bb, off + j * 2 + 1, none⟩) hbb).trans E1.out); have hb1 := Lib.hid hb1; go_simp); (try (go_bits; try go_simp)); (try (rw [if_pos (by omega)]; try go_simp)); (first | done | ((first | (go_at_call 123; refine (HCP.out _ (bThen HIU.out.be hb1.out)).mono ?_; rintro e w' ⟨rfl, hb⟩; exact ⟨rfl, bThen hb1.out hb⟩) | (go_at_call 99; refine (oWth_any _ _ _ _).mono ?_; rintro e w' ⟨rfl, rfl⟩; rw [HB1.out]; exact ⟨rfl, hb1.out⟩) | (go_at_call 94; refine (oUnless_any _ _ _).mono ?_; rintro e w' ⟨rfl, rfl⟩; exact ⟨rfl, hb1.out⟩) | (go_at_call 126; refine (HOR.out _).mono ?_; rintro e w' ⟨rfl, hw'⟩; exact ⟨rfl, by rw [hw']; exact bAlloc (bAlloc hb1.out _) _⟩))) | (with_reducible rfl) | exact rfl))); (simp only [Act.put, List.setIfInBounds_toArray, List.set_cons_zero, List.set_cons_succ])))
    refine WQ_yes (by rfl) ⟨.int .i64 j, fun w1 hb1 => (by go_simp; try (split <;> omega)), ?_⟩
    simp only [Act.put, List.setIfInBounds_toArray, List.set_cons_zero, List.set_cons_succ]
    iterate 7 (first | (refine WQ_no (by rfl) ?_; (simp only [Act.put, List.setIfInBounds_toArray, List.set_cons_zero, List.set_cons_succ])) | (refine WQ_yes (by rfl) ?_; apply Exists.intro; refine ⟨fun w1 hb1 => ?_, ?_⟩; (focus (((obtain ⟨-, k6, -⟩ := K6u.out.to hb1; obtain ⟨-, k10, -⟩ := (KK10.out.to HIU.out.be).to hb1; obtain ⟨-, k7, -⟩ := (KK7.out.to HIU.out.be).to hb1; have e0 := (hb1.cell (p := ⟨bb, off + j * 2, none⟩) hbb).trans E0.out; have e1 := (hb1.cell (p := ⟨bb, off + j * 2 + 1, none⟩) hbb).trans E1.out); have hb1 := Lib.hid hb1; go_simp); (try (go_bits; try go_simp)); (try (rw [if_pos (by omega)]; try go_simp)); (first | done | ((first | (go_at_call 123; refine (HCP.out _ (bThen HIU.out.be hb1.out)).mono ?_; rintro e w' ⟨rfl, hb⟩; exact ⟨rfl, bThen hb1.out hb⟩) | (go_at_call 99; refine (oWth_any _ _ _ _).mono ?_; rintro e w' ⟨rfl, rfl⟩; rw [HB1.out]; exact ⟨rfl, hb1.out⟩) | (go_at_call 94; refine (oUnless_any _ _ _).mono ?_; rintro e w' ⟨rfl, rfl⟩; exact ⟨rfl, hb1.out⟩) | (go_at_call 126; refine (HOR.out _).mono ?_; rintro e w' ⟨rfl, hw'⟩; exact ⟨rfl, by rw [hw']; exact bAlloc (bAlloc hb1.out _) _⟩))) | (with_reducible rfl) | exact rfl))); (simp only [Act.put, List.setIfInBounds_toArray, List.set_cons_zero, List.set_cons_succ])))
    refine WQ_nil ?_
    intro w1 hb1
    go_wp2_with fail
    refine (oFirst2_new _ _ _ _ (by simp)).mono ?_
    rintro e w' ⟨rfl, rfl⟩
    go_wp2_with fail
    go_ret
    exact ⟨ret_int (by rw [← HE.out]; first | rfl | rw [show (((j : Int) + 1) == 0) = false from by rw [beq_eq_false_iff_ne]; omega, Bool.false_or]), HIU.out.to (bAlloc hb1 _)⟩

set_option maxHeartbeats 1600000 in
set_option maxRecDepth 100000 in
theorem cs2_any (p : Plt) (L : List OSt) (r : Int × Int) (lim : Int) (k : Nat) (W2 W : World) (a al : Option Addr) (cap cl B10 B5 B6 : Nat) (hp : PltOk p) (hs : StOk p (sg L k)) (hrg : 0 ≤ r.1 ∧ r.2 ≤ 50 ∧ r.1 ≤ r.2) (hlim : Nin lim) (h : CsI L W2 L.length W)
    (K10 : Blk W2 B10 (plL p a cap al cl)) (K5 : Blk W2 B5 #[.int .i64 r.1, .int .i64 r.2]) (K6 : Blk W2 B6 #[.int .i64 lim]) (hrl : Reads W2 al (p.pts.length * 2) (fracs p.pts)) :
    Calls Tryz.prog 129 (#[.int .i64 k, .agg #[.int .i64 (sg L k).1, .bool (sg L k).2]] ++ #[.pointer (some ⟨B10, 0, none⟩), .pointer (some ⟨B5, 0, none⟩), .pointer (some ⟨B6, 0, none⟩), .pointer (some ⟨W2.heap.size + 1, 0, none⟩)]) W
      fun e w'' => e = .returned (.int .i64 (jdg p r lim (sg L k) (inS L))) ∧ CsI L W2 L.length w'' := by
  have hst := h.st
  rw [List.take_length] at hst
  obtain ⟨s, hs'⟩ : ∃ s, sg L k = s := ⟨_, rfl⟩
  rw [hs'] at hs ⊢
  have hba := bAlloc (bSelf W) (.cells #[.int .i64 s.1, .bool s.2] 46)
  have HJ := Lib.hid (judge_any p s r lim (inS L) a al cap cl W2.heap.size L.length (W.alloc (.cells #[.int .i64 s.1, .bool s.2] 46)) hp hs hrg hlim (hrl.to (bThen h.be hba)) (hst.to hba))
  obtain ⟨jr, hjr⟩ : ∃ x, jdg p r lim s (inS L) = x := ⟨_, rfl⟩
  rw [hjr] at HJ ⊢
  have HI := Lib.hid (h.to hba)
  have k10 := (K10.to (bThen h.be hba)).2.1
  have k5 := (K5.to (bThen h.be hba)).2.1
  have k6 := (K6.to (bThen h.be hba)).2.1
  have kb := (h.bx.to hba).2.1
  clear hjr hs' hs hst hba h K10 K5 K6 hrl
  obtain ⟨s1, s2⟩ := s
  obtain ⟨r1, r2⟩ := r
  dsimp only at HJ HI k10 k5 k6 kb ⊢
  show Calls _ _ #[_, _, _, _, _, _] _ _
  go_enter Tryz.func129, Tryz.ntmps129
  go_wp2_with fail
  refine HJ.out.mono ?_
  rintro e w1 ⟨rfl, hb⟩
  have HI1 := Lib.hid (HI.out.to hb)
  clear hb HI
  go_wp2_with fail
  go_ret
  exact ⟨rfl, HI1.out⟩

end Go.Proofs.YtjfedpblkejmkaaGreat

/-
  CheckSafe, whole.
-/
namespace Go.Proofs.YtjfedpblkejmkaaGreat
open Go.RowKit
attribute [local go_sem] Oper.semAt_some

theorem csE_ok {p : Plt} {L : List OSt} {k : Nat} (h : csE p L k = 0) : StOk p (sg L k) := by
  obtain ⟨h1, -⟩ := firstE2.1 (show firstE [_, _] = 0 from h)
  rw [unlZ (by decide), wthn_iff] at h1
  exact h1

set_option maxHeartbeats 6400000 in
set_option maxRecDepth 100000 in
theorem CheckSafe_any (p : Plt) (r : Int × Int) (lim : Int) (L : List OSt) (a ax : Option Addr) (cap cx : Nat) (w : World) (hlen : p.pts.length ≤ 1000) (hL : L.length ≤ 1000) (hW : ∀ k, k < L.length → StW (sg L k)) (hr : Reads w a (p.pts.length * 2) (fracs p.pts)) (hrx : Reads w ax (L.length * 2) (osts L)) :
    Calls Tryz.prog 55 #[.agg (plC p a cap), .agg #[.int .i64 r.1, .int .i64 r.2], .int .i64 lim, .slice ax L.length cx] w fun e w' => e = .returned (.tuple #[.int .i64 (csR p r lim L).1, .int .i64 (csR p r lim L).2]) ∧ Below w.heap.size w w' := by
  have HO := Lib.hid (fun W (hb : Below w.heap.size w W) => openRange_any p r.1 r.2 lim a cap W hlen (hr.to hb))
  have HOK := Lib.hid (fun (h : opRE p r lim = 0) => opRE_ok h)
  have HR : Hid (csR p r lim L = if opRE p r lim = 0 then (if (eachR (csE p L) 0 L.length).2 = 0 then eachR (fun k => jdg p r lim (sg L k) (inS L)) 0 L.length else eachR (csE p L) 0 L.length) else (0, opRE p r lim)) := Lib.hid rfl
  have HC1 := Lib.hid (fun (W2 : World) al cl B10 B7 k hk W hp h K10 K7 hrl hrx => cs1_any p L k hk W2 W a al ax cap cl cx B10 B7 hp (hW k hk) hL h K10 K7 hrl hrx)
  have HC2 := Lib.hid (fun (W2 : World) al cl B10 B5 B6 k W hp hs hrg hlim h K10 K5 K6 hrl => cs2_any p L r lim k W2 W a al cap cl B10 B5 B6 hp hs hrg hlim h K10 K5 K6 hrl)
  have HEOK := Lib.hid (fun (h : (eachR (csE p L) 0 L.length).2 = 0) k (hk : k < L.length) => csE_ok (eachR_ok _ _ h k (Nat.zero_le _) (by omega)))
  have HXR := Lib.hid hrx
  obtain ⟨⟨c1, c2⟩, hcr⟩ : ∃ x, csR p r lim L = x := ⟨_, rfl⟩
  rw [hcr] at HR ⊢
  obtain ⟨r1, r2⟩ := r
  obtain ⟨ve, hve⟩ : ∃ e, opRE p (r1, r2) lim = e := ⟨_, rfl⟩
  dsimp only at HO ⊢
  rw [hve] at HO HOK HR
  clear hcr hve hr hrx hlen hW
  have hmm := @run_makeMap Tryz.prog
  go_enter Tryz.func55, Tryz.ntmps55
  go_wp2_with fail
  obtain ⟨W, hWW⟩ : ∃ W, (((w.alloc (.cells (plC p a cap) 44)).alloc (.cells #[.int .i64 r1, .int .i64 r2] 25)).alloc (.cells #[.int .i64 lim] 3)).alloc (.cells #[.slice ax L.length cx] 49) = W := ⟨_, rfl⟩
  rw [hWW]
  have K5 : Hid (Blk W (w.heap.size + 1) #[.int .i64 r1, .int .i64 r2]) := by subst hWW; exact Lib.hid (((Blk.newAt _ _ _ (by simp)).alloc _).alloc _)
  have K6 : Hid (Blk W (w.heap.size + 1 + 1) #[.int .i64 lim]) := by subst hWW; exact Lib.hid ((Blk.newAt _ _ _ (by simp)).alloc _)
  have K7 : Hid (Blk W (w.heap.size + 1 + 1 + 1) #[.slice ax L.length cx]) := by subst hWW; exact Lib.hid (Blk.newAt _ _ _ (by simp))
  have HB : Hid (Below w.heap.size w W) := by subst hWW; exact Lib.hid (bAlloc (bAlloc (bAlloc (bAlloc (bSelf w) _) _) _) _)
  clear hWW
  refine (HO.out _ HB.out).mono ?_
  rintro e w1 ⟨al, cl, rfl, hcl, hrd, hb, hfr⟩
  replace K5 := Lib.hid (K5.out.to hb)
  replace K6 := Lib.hid (K6.out.to hb)
  replace K7 := Lib.hid (K7.out.to hb)
  replace HB := Lib.hid (bThen HB.out hb)
  have HRD := Lib.hid hrd
  clear hb hrd hfr HO
  by_cases h0 : ve = 0
  · subst h0
    obtain ⟨hp, hrg, hl0, hl1⟩ := HOK.out rfl
    have hR := HR.out
    rw [if_pos rfl] at hR
    have HP := Lib.hid hp
    have HRG : Hid (0 ≤ r1 ∧ r2 ≤ 50 ∧ r1 ≤ r2) := Lib.hid hrg
    have hlim : Nin lim := ⟨by omega, by omega⟩
    have HNI := Lib.hid hlim
    have HRR := Lib.hid hR
    have k7' : ∀ (o1 o2 o3 : Obj) (o : Nat), (((w1.alloc o1).alloc o2).alloc o3).cell? ⟨w.heap.size + 1 + 1 + 1, o, none⟩ = #[Value.slice ax L.length cx][o]? := fun o1 o2 o3 o => (((K7.out.alloc o1).alloc o2).alloc o3).2.1 o
    clear HOK hp hrg hR HR hlim hl0 hl1
    go_wp2_with fail
    clear k7'
    obtain ⟨W2, hW2⟩ : ∃ W2, w1.alloc (.cells (plL p a cap al cl) 170) = W2 := ⟨_, rfl⟩
    have hsz : w1.heap.size + 1 = W2.heap.size := by subst hW2; simp
    have K10 : Hid (Blk W2 w1.heap.size (plL p a cap al cl)) := by subst hW2; exact Lib.hid (Blk.new _ _ _)
    have hb2 : Below w1.heap.size w1 W2 := by subst hW2; exact bAlloc (bSelf _) _
    have hW2' := hW2
    unfold plL at hW2'
    rw [hW2', hsz]
    replace K5 := Lib.hid (K5.out.to hb2)
    replace K6 := Lib.hid (K6.out.to hb2)
    replace K7 := Lib.hid (K7.out.to hb2)
    replace HRD := Lib.hid (HRD.out.to hb2)
    replace HXR := Lib.hid ((HXR.out.to HB.out).to hb2)
    replace HB := Lib.hid (bThen HB.out hb2)
    clear hW2 hW2' hb2 hsz hmm
    obtain ⟨B10, hB10⟩ : ∃ b, w1.heap.size = b := ⟨_, rfl⟩
    rw [hB10] at K10 ⊢
    clear hB10
    obtain ⟨W3, hW3⟩ : ∃ W3, (W2.alloc (.map #[] 0)).alloc (.cells #[.map (some W2.heap.size)] 190) = W3 := ⟨_, rfl⟩
    rw [hW3]
    have hI0 : CsI L W2 0 W3 := by
      subst hW3
      refine ⟨bAlloc (bAlloc (bSelf _) _) _, Blk.newAt _ _ _ (by simp), ?_⟩
      exact ((SetX.new W2).set.ext (fun s => rfl)).to (bAlloc (bSelf _) _)
    have HE1 := Lib.hid (eachSt_any L ax cx 128 #[.pointer (some ⟨W2.heap.size + 1, 0, none⟩), .pointer (some ⟨B10, 0, none⟩), .pointer (some ⟨w.heap.size + 1 + 1 + 1, 0, none⟩)] W3 (csE p L) (fun k W => CsI L W2 k W) (by omega) (by intro args w; go_simp) hI0 (fun k W' _ h => HXR.out.to h.be) (fun k W' o h => h.to (bAlloc (bSelf _) _)) (fun k W hk h => HC1.out W2 al cl B10 (w.heap.size + 1 + 1 + 1) k hk W HP.out h K10.out K7.out HRD.out HXR.out))
    have HE2 := Lib.hid (fun W5 (h5 : CsI L W2 L.length W5) (hok : ∀ k, k < L.length → StOk p (sg L k)) => eachSt_any L ax cx 129 #[.pointer (some ⟨B10, 0, none⟩), .pointer (some ⟨w.heap.size + 1, 0, none⟩), .pointer (some ⟨w.heap.size + 1 + 1, 0, none⟩), .pointer (some ⟨W2.heap.size + 1, 0, none⟩)] W5 (fun k => jdg p (r1, r2) lim (sg L k) (inS L)) (fun _ W => CsI L W2 L.length W) (by omega) (by intro args w; go_simp) h5 (fun k W' _ h => HXR.out.to h.be) (fun k W' o h => h.to (bAlloc (bSelf _) _)) (fun k W hk h => HC2.out W2 al cl B10 (w.heap.size + 1) (w.heap.size + 1 + 1) k W HP.out (hok k hk) HRG.out HNI.out h K10.out K5.out K6.out HRD.out))
    obtain ⟨⟨x1, x2⟩, hx⟩ : ∃ x, eachR (csE p L) 0 L.length = x := ⟨_, rfl⟩
    obtain ⟨⟨z1, z2⟩, hz⟩ : ∃ x, eachR (fun k => jdg p (r1, r2) lim (sg L k) (inS L)) 0 L.length = x := ⟨_, rfl⟩
    rw [hx] at HE1 HEOK HRR
    rw [hz] at HE2 HRR
    dsimp only at HE1 HE2 HEOK HRR
    obtain ⟨n, hn⟩ : ∃ n, L.length = n := ⟨_, rfl⟩
    rw [hn] at HE1 HE2 HEOK K7 ⊢
    clear hx hz hI0 hW3 HC1 HC2 hn
    refine HE1.out.mono ?_
    rintro e w5 ⟨rfl, k, hk, hI, hend⟩
    have HI := Lib.hid hI
    have HEND := Lib.hid hend
    clear hI hend HE1
    obtain ⟨-, kb, -⟩ := K7.out.to HI.out.be
    by_cases hx0 : x2 = 0
    · subst hx0
      obtain rfl : k = n := HEND.out (by first | rfl | trivial)
      have hR := HRR.out
      rw [if_pos rfl] at hR
      injection hR with hR1 hR2
      subst hR1 hR2
      have HE3 := Lib.hid (HE2.out w5 HI.out (HEOK.out (by first | rfl | trivial)))
      clear HE2 HEOK HRR
      go_wp2_with fail
      refine HE3.out.mono ?_
      rintro e w6 ⟨rfl, k2, hk2, hI2, -⟩
      have HI2 := Lib.hid hI2
      clear hI2 HE3
      go_wp2_with fail
      go_ret2
      exact ⟨rfl, bThen HB.out HI2.out.be⟩
    · have hR := HRR.out
      rw [if_neg hx0] at hR
      injection hR with hR1 hR2
      subst hR1 hR2
      have hx0' : (c2 != 0) = true := by simpa using hx0
      clear HE2 HEOK HRR
      go_wp2_with fail
      go_ret2
      exact ⟨rfl, bThen HB.out HI.out.be⟩
  · have h0' : (ve != 0) = true := by simpa using h0
    have hR := HR.out
    rw [if_neg h0] at hR
    injection hR with hR1 hR2
    subst hR1 hR2
    go_wp2_with fail
    go_ret2
    exact ⟨rfl, bAlloc HB.out _⟩

end Go.Proofs.YtjfedpblkejmkaaGreat

/-
  CopyStates of the reference; the law's membership.
-/
namespace Go.Proofs.YtjfedpblkejmkaaGreat
open Go.RowKit
attribute [local go_sem] Oper.semAt_some

def ostR (l : List OSt) (k j : Nat) : Value := osts l (k * 2 + j)
theorem recs_st (l : List OSt) : recs 2 (ostR l) = osts l := funext fun i => by unfold recs ostR; rw [Nat.div_add_mod' i 2]
theorem osts_one (l : List OSt) (i : Nat) : (osts l i).oneCell' = true := by unfold osts; split <;> rfl

set_option maxHeartbeats 800000 in
set_option maxRecDepth 100000 in
theorem rCopyStates_any (c : List OSt) (a : Option Addr) (cap : Nat) (w : World) (hfew : c.length ≤ 100000) (hr : Reads w a (c.length * 2) (osts c)) :
    Calls Tryz.prog 56 #[.slice a c.length cap] w fun e w' => ∃ a' cap', e = .returned (.slice a' c.length cap') ∧ c.length ≤ cap' ∧ Reads w' a' (c.length * 2) (osts c) ∧ Below w.heap.size w w' ∧ ∀ p, a' = some p → w.heap.size ≤ p.block := by
  cases a with
  | none =>
    have h0 : c.length = 0 := by
      rcases hr with h | ⟨b, off, e, -⟩
      · omega
      · cases e
    rw [h0]
    clear hr
    go_enter Tryz.func56, Tryz.ntmps56
    go_wp2_with fail
    go_ret
    exact ⟨_, _, rfl, by omega, .inl rfl, bAlloc (bSelf w) _, fun p hp => by cases hp; exact Nat.le_refl _⟩
  | some ad =>
    have hr2 := hr.alloc (.cells #[] 46)
    rw [← recs_st c] at hr2
    have HN := Lib.hid (Reads.newsR hr2)
    have HPO : Hid (∀ (u2 : World) (v : Value), u2.ownsRow w.heap.size 46 2 v c.length (rcells 2 (ostR c) c.length) → ∃ a' c', v = .slice a' c.length c' ∧ c.length ≤ c' ∧ Reads u2 a' (c.length * 2) (osts c) ∧ ∀ q, a' = some q → w.heap.size ≤ q.block) := Lib.hid (fun u2 v h => Reads.of_row (f := osts c) h (fun i hi => by rw [rcells_get hi, recs_st]))
    have HCL : Hid ((rcells 2 (ostR c) c.length).length = c.length * 2) := Lib.hid (rcells_len _ _ _)
    have HON := Lib.hid (onesR (s := 2) (f := ostR c) (n := c.length) (fun k j _ _ => osts_one c _))
    obtain ⟨n, hn⟩ : ∃ n, c.length = n := ⟨_, rfl⟩
    rw [hn] at HPO HCL HN HON hfew ⊢
    clear hr hr2 hn
    go_enter Tryz.func56, Tryz.ntmps56
    go_wp2_with (at_builtin; refine wpList_app w.heap.size rtSt rfl (.tmp 3) (.tmp 4) rfl (.slice (some ⟨w.heap.size, 0, none⟩) 0 0) 0 [] rfl (World.ownsRow_lit w #[] 0 (Nat.le_refl _) (by decide) rfl) ad n cap (rcells 2 (ostR c) n) rfl HCL.out HN.out HON.out (by unfold maxLen; omega) (by omega) (by simp) ?_; intro v' w2 hown' hgrow _ hwhere; have HO := Lib.hid hown'; have HBB : Hid (Below w.heap.size w w2) := Lib.hid ((bAlloc (bSelf w) _).grown hgrow (by simp) (fun k e => by cases e; exact Nat.le_refl _)); clear hown' hgrow hwhere)
    go_ret
    have hrow := HO.out
    rw [Nat.zero_add, List.nil_append] at hrow
    obtain ⟨a', cap', rfl, hcp, hrd, hfr⟩ := HPO.out _ _ hrow
    exact ⟨a', cap', rfl, hcp, hrd, HBB.out, hfr⟩

theorem inS_at {l : List OSt} {k : Nat} (h : k < l.length) : inS l (sg l k) = true := by
  rw [inS_iff]
  unfold sg
  rw [List.getD_eq_getElem?_getD, List.getElem?_eq_getElem h]
  exact List.getElem_mem h
theorem inS_no {l : List OSt} {s : OSt} (h : ∀ j, j < l.length → sg l j ≠ s) : inS l s = false := by
  rw [← Bool.not_eq_true, inS_iff]
  intro hm
  obtain ⟨j, hj, e⟩ := List.getElem_of_mem hm
  refine h j hj ?_
  unfold sg
  rw [List.getD_eq_getElem?_getD, List.getElem?_eq_getElem hj]
  exact e

end Go.Proofs.YtjfedpblkejmkaaGreat

