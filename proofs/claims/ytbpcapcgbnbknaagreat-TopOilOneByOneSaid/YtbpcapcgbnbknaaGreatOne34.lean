/-
  Texts of this claim, in their build order: OM6.
-/
import Derived.Test.YtbpcapcgbnbknaaGreatOne33
import Derived.Test.YtbpcapcgbnbknaaGreatOne0

namespace Go.Proofs.YtbpcapcgbnbknaaGreat
section
open Go.RowKit
attribute [local go_sem] Oper.semAt_some

/-- The head of a tick. -/
structure TkH (p : Plt) (s : OSt) (cls : List (Int × Int)) (a al ac : Option Addr) (cap cl cc bs bc bp k : Nat) (J : List TkI → (Nat → Prop) → World → Prop) (na : Option Addr) (nc : Nat) (now : List (OSt × List Int)) (wr : World) : Prop where
  ex : ∃ (pre : List TkI) (M : Nat → Prop) (ds : Nat → Option Addr × Nat), tks p cls [(s, [])] = pre ++ tksT p (cls.drop k) now ∧ J pre M wr ∧ (∀ q, M q → q < wr.heap.size ∧ ¬ TkR p cls al ac bs bc bp q) ∧ LvAt wr M na now ds
  fr : TkF p s cls a al ac cap cl cc bs bc bp wr
  nc : now.length ≤ nc
  st : ∀ x ∈ now, StOk p x.1
  nd : (sts now).Nodup
  dl : ∀ x ∈ now, x.2.length = k

theorem TkH.mk' {p : Plt} {s : OSt} {cls : List (Int × Int)} {a al ac : Option Addr} {cap cl cc bs bc bp k : Nat} {J : List TkI → (Nat → Prop) → World → Prop} {na : Option Addr} {nc : Nat} {now : List (OSt × List Int)} {wr W2 : World} {pre : List TkI} {M M2 : Nat → Prop} {ds : Nat → Option Addr × Nat}
    (hF : TkF p s cls a al ac cap cl cc bs bc bp wr) (hM : ∀ q, M q → q < wr.heap.size ∧ ¬ TkR p cls al ac bs bc bp q) (hl : LvAt wr M na now ds) (hU : Upd M M2 wr W2) (hJ2 : J pre M2 W2) (heq : tks p cls [(s, [])] = pre ++ tksT p (cls.drop k) now)
    (hnc : now.length ≤ nc) (hst : ∀ x ∈ now, StOk p x.1) (hnd : (sts now).Nodup) (hdl : ∀ x ∈ now, x.2.length = k) : TkH p s cls a al ac cap cl cc bs bc bp k J na nc now W2 :=
  ⟨⟨pre, M2, ds, heq, hJ2, fun q hq => ⟨hU.fit q hq, fun hr => (hU.grow q hq).elim (fun h => (hM q h).2 hr) (fun h => by have := hF.lt hr; omega)⟩, hl.upd hU⟩, hF.upd hU (fun q hq => (hM q hq).2), hnc, hst, hnd, hdl⟩
theorem enc_first {W : World} {M : Nat → Prop} (hM : ∀ q, M q → q < W.heap.size) (v : Int) (r : Bool) (T : TypeId) : LvAt (W.alloc (.cells #[.int .i64 v, .bool r, .slice none 0 0] T)) M (some ⟨W.heap.size, 0, none⟩) [((v, r), [])] (fun _ => (none, 0)) := by
  refine ⟨(Blk.new W _ _).row (fun i hi => ?_), fun k hk => .inl ?_, fun q hq => ?_, fun k _ q hq => (by cases hq), fun k hk => ?_⟩
  · have : i < 3 := hi
    match i, this with
    | 0, _ => rfl
    | 1, _ => rfl
    | 2, _ => rfl
  · have : k < 1 := hk
    obtain rfl : k = 0 := by omega
    rfl
  · cases hq
    exact ⟨fun hm => by have := hM _ hm; dsimp only at this; omega, by simp⟩
  · have : k < 1 := hk
    obtain rfl : k = 0 := by omega
    exact Nat.le_refl _

theorem tksT_some {p : Plt} {r : Int × Int} {rs : List (Int × Int)} {now : List (OSt × List Int)} {e : List Int} (h : (tkL p r now).emp = some e) : tksT p (r :: rs) now = [((tkL p r now).aft, some e)] := by
  show (match (tkL p r now).emp with | some e => [((tkL p r now).aft, some e)] | none => tks p rs (tkL p r now).aft) = _
  rw [h]
theorem tksT_none {p : Plt} {r : Int × Int} {rs : List (Int × Int)} {now : List (OSt × List Int)} (h : (tkL p r now).emp = none) : tksT p (r :: rs) now = tks p rs (tkL p r now).aft := by
  show (match (tkL p r now).emp with | some e => [((tkL p r now).aft, some e)] | none => tks p rs (tkL p r now).aft) = _
  rw [h]
theorem fg_lt {l : List (Int × Int)} {i : Nat} (h : i < l.length) : fg l i = l[i] := by
  unfold fg; rw [List.getD_eq_getElem?_getD, List.getElem?_eq_getElem h]; rfl

set_option maxHeartbeats 12800000 in
set_option maxRecDepth 100000 in
theorem ticks1_in (nF : Nat) (p : Plt) (s : OSt) (cls : List (Int × Int)) (a al ac : Option Addr) (cap cl cc bs bc bp : Nat) (w : World) (hp : PltOk p) (hs : StOk p s) (hcl : cls.length ≤ 20 ∧ ∀ k, k < cls.length → 0 ≤ (fg cls k).1 ∧ (fg cls k).2 ≤ 50 ∧ (fg cls k).1 ≤ (fg cls k).2)
    (hF : TkF p s cls a al ac cap cl cc bs bc bp w) :
    SeqV nF Tryz.prog 132 #[.pointer (some ⟨bs, 0, none⟩), .pointer (some ⟨bc, 0, none⟩), .pointer (some ⟨bp, 0, none⟩)] TkEnc (tks p cls [(s, [])]) (TkR p cls al ac bs bc bp) w := by
  intro l J Jx M W hW hM hJ hY h0
  obtain ⟨hn20, hcls⟩ := hcl
  have HF := zH (hF.to hW)
  have HM := zH hM
  have HJ := zH hJ
  have HY := zH hY
  have H0 := zH h0
  have HCL := zH hcls
  have HNX := zH (fun W' (st : OSt) (hst : StOk p st) d (hd : 0 ≤ d ∧ d ≤ 50) hrd => next_any' p st d a al cap cl W' hp hst hd hrd)
  have HP := zH hp
  have HS := zH hs
  have hEq : ∀ (w : World) (a : Option Addr) (n c : Nat), Sem.run Tryz.prog (binOp .eql 28 (.slice a n c) (.slice none 0 0)) w = .ok (.bool a.isNone) w := fun w a n c => Lib.run_eql_slice_nil w _ _ a n c 0 0 Tryz.underlying28
  have hNe : ∀ (w : World) (a : Option Addr) (n c : Nat), Sem.run Tryz.prog (binOp .neq 28 (.slice a n c) (.slice none 0 0)) w = .ok (.bool (!a.isNone)) w := fun w a n c => run_neq_slice_nil_any w _ _ a n c 0 0 Tryz.underlying28
  have hmm := @run_makeMap Tryz.prog
  clear hF hM hJ hY h0 hcls hp hs
  obtain ⟨s1, sr⟩ := s
  obtain ⟨n, hn⟩ : ∃ n, cls.length = n := ⟨_, rfl⟩
  have HN := zH hn
  clear hn
  have hn20 : n ≤ 20 := by have := HN.out; omega
  obtain ⟨hbs, kS, -⟩ := HF.out.S
  refine callsIn_of_wp Tryz.func132 rfl trivial ?_ rfl
  simp only [Tryz.ntmps132, List.size_toArray, List.length_cons, List.length_nil, Nat.reduceAdd, Nat.reduceSub, Array.replicate_succ, Array.replicate_zero, List.push_toArray, List.append_toArray, List.nil_append, List.cons_append]
  have hL0 := enc_first (fun q hq => (HM.out q hq).1) s1 sr 163 (W := W) (M := M)
  have hy0 := HY.out [] ([((s1, sr), [])], none) #[.slice (some ⟨W.heap.size, 0, none⟩) 1 1, .slice none 0 0] (tksT p cls [((s1, sr), [])]) M (W.alloc (.cells #[.int .i64 s1, .bool sr, .slice none 0 0] 163)) (by rw [tks_eq]; rfl) ⟨_, _, _, _, rfl, Nat.le_refl _, hL0, rfl⟩ (HJ.out _ _ _ _ H0.out (Agree.of_below (bAlloc (bSelf _) _) (Nat.le_refl _)))
  obtain ⟨fn, tmps, assign, body, hy, hRd⟩ := hy0
  have hRd := zH hRd
  have HL0 := zH hL0
  clear hL0
  gi_wp2_with fail
  refine ⟨fun h => by simp [Fence.wide] at h, ?_⟩
  refine hRd.out.mono ?_
  rintro e W2 (⟨rfl, M2, hJ2, hU⟩ | ⟨rfl, hJx⟩)
  · have HI : Hid (TkH p (s1, sr) cls a al ac cap cl cc bs bc bp 0 J (some ⟨W.heap.size, 0, none⟩) 1 [((s1, sr), [])] W2) :=
      zH (TkH.mk' (HF.out.to (bAlloc (bSelf W) _)) (fun q hq => ⟨by have := (HM.out q hq).1; simp; omega, (HM.out q hq).2⟩) HL0.out hU hJ2 (by rw [tks_eq]; rfl) (Nat.le_refl _)
        (fun x hx => by simp only [List.mem_cons, List.not_mem_nil, or_false] at hx; subst hx; exact HS.out) (by simp [sts]) (fun x hx => by simp only [List.mem_cons, List.not_mem_nil, or_false] at hx; subst hx; rfl))
    have hs2 : W.heap.size < W2.heap.size := by have := hU.size; simp at this; omega
    clear hJ2 hU hRd hy HL0 kS
    obtain ⟨hbc, kC, -⟩ := HI.out.fr.C
    have hn' := HN.out
    rw [hn'] at kC
    clear hn'
    gi_wp2_with fail
    clear kC
    gi_loopw [5, 7, 8, 9, 10, 12, 13, 14, 15, 16, 26, 33] (fun v5 _ _ _ _ _ _ _ _ _ v26 _ wr => ∃ (k : Nat) (now : List (OSt × List Int)) (na : Option Addr) (nc : Nat), v26 = .int .i64 k ∧ k ≤ n ∧ v5 = .slice na now.length nc ∧ Hid (TkH p (s1, sr) cls a al ac cap cl cc bs bc bp k J na nc now wr) ∧ W.heap.size < wr.heap.size) (fun _ _ _ _ _ _ _ _ _ _ v26 _ _ => n - (intOf v26).toNat)
    case atStart => exact ⟨0, _, _, _, rfl, Nat.zero_le _, rfl, HI, hs2⟩
    case round =>
      obtain ⟨k, now, na, nc, rfl, hk, rfl, HI, hsz⟩ := hrel
      obtain ⟨wo, hwo⟩ : ∃ wo, wo = wr := ⟨_, rfl⟩
      subst hwo
      by_cases hlt : k < n
      · have hkc : k < cls.length := by have := HN.out; omega
        obtain ⟨b, off, rfl, hb, hc⟩ := (HI.out.fr.RC).at (k := k * 2) (by omega)
        obtain ⟨lo, hlo⟩ : ∃ v, (fg cls k).1 = v := ⟨_, rfl⟩
        obtain ⟨hi, hhi⟩ : ∃ v, (fg cls k).2 = v := ⟨_, rfl⟩
        have c0 : wo.cell? ⟨b, off + k * 2, none⟩ = some (.int .i64 lo) := by have := hc (k * 2) (by omega); rw [fracs0, hlo] at this; exact this
        have c1 : wo.cell? ⟨b, off + k * 2 + 1, none⟩ = some (.int .i64 hi) := by have := hc (k * 2 + 1) (by omega); rw [fracs1, hhi] at this; exact this
        obtain ⟨hl0, hl1, hl2⟩ := HCL.out k hkc
        rw [hlo] at hl0 hl2
        rw [hhi] at hl1 hl2
        have HR : Hid (fg cls k = (lo, hi)) := zH (Prod.ext hlo hhi)
        have HKC := zH hkc
        have hfew := few_sts HP.out HI.out.nd HI.out.st
        clear hc hlo hhi hkc
        gi_wp2_with fail
        obtain ⟨W1, hW1⟩ : ∃ W1, (wo.alloc (.cells #[.int .i64 lo, .int .i64 hi] 23)).alloc (.map #[] 0) = W1 := ⟨_, rfl⟩
        rw [hW1]
        have HB0 : Hid (Below wo.heap.size wo W1) := by subst hW1; exact zH (bAlloc (bAlloc (bSelf _) _) _)
        have K7 : Hid (Blk W1 wo.heap.size #[.int .i64 lo, .int .i64 hi]) := by subst hW1; exact zH ((Blk.new _ _ _).alloc _)
        have HST : Hid (StpM p (wo.heap.size + 1) ⟨[], none⟩ (.slice none 0 0) (.slice none 0 0) (fun _ => (none, 0)) W1) := by
          subst hW1
          have := StpM.start p (wo.alloc (.cells #[.int .i64 lo, .int .i64 hi] 23))
          rw [World.size_alloc] at this
          exact zH this
        have hs3 : wo.heap.size + 1 < W1.heap.size := by subst hW1; simp
        clear hW1 c0 c1
        gi_wp2_with fail
        gi_loopw [8, 10, 12, 13, 14, 15, 16, 33] (fun v8 v10 _ _ _ _ _ v33 wq => ∃ (j : Nat) (T : Tks) (da : Nat → Option Addr × Nat), v33 = .int .i64 j ∧ j ≤ now.length ∧ Hid (T = (now.take j).foldl (tkR p (lo, hi)) ⟨[], none⟩) ∧ Hid (StpM p (wo.heap.size + 1) T v8 v10 da wq) ∧ Hid (Below wo.heap.size wo wq) ∧ Hid (Blk wq wo.heap.size #[.int .i64 lo, .int .i64 hi]) ∧ Hid (∀ x ∈ T.aft, x.2.length = k + 1) ∧ wo.heap.size + 1 < wq.heap.size) (fun _ _ _ _ _ _ _ v33 _ => now.length - (intOf v33).toNat)
        case atStart => exact ⟨0, _, _, rfl, Nat.zero_le _, zH rfl, HST, HB0, K7, zH (fun x hx => by simp at hx), hs3⟩
        case round =>
          obtain ⟨j, T, da, rfl, hj, hT, HST, HB1, K7, HDL, hsz1⟩ := hrel
          obtain ⟨wq, hwq⟩ : ∃ wq, wq = wr := ⟨_, rfl⟩
          subst hwq
          by_cases hlj : j < now.length
          · obtain ⟨pre, M, ds, heq, hJp, hMp, hL⟩ := HI.out.ex
            have hdm := hL.dm j hlj
            have hLw := (hL.to HB1.out)
            have hln := hL.ln j hlj
            have hag := ag_mem hlj
            have hst := HI.out.st _ hag
            have hdl := HI.out.dl _ hag
            obtain ⟨bn, on, rfl, hbn, hcn⟩ := (hLw.rd).at (k := j * 3) (by omega)
            obtain ⟨⟨⟨av, ar⟩, dl⟩, hajn⟩ : ∃ x, ag now j = x := ⟨_, rfl⟩
            obtain ⟨⟨dA, dC⟩, hdj⟩ : ∃ x, ds j = x := ⟨_, rfl⟩
            have e0 : wq.cell? ⟨bn, on + j * 3, none⟩ = some (.int .i64 av) := by have := hcn (j * 3) (by omega); rw [arrF0, hajn] at this; exact this
            have e1 : wq.cell? ⟨bn, on + j * 3 + 1, none⟩ = some (.bool ar) := by have := hcn (j * 3 + 1) (by omega); rw [arrF1, hajn] at this; exact this
            have e2 : wq.cell? ⟨bn, on + j * 3 + 1 + 1, none⟩ = some (.slice dA dl.length dC) := by have := hcn (j * 3 + 1 + 1) (by omega); rw [arrF2, hajn, hdj] at this; exact this
            rw [hajn] at hst hdl hln hdm
            rw [hdj] at hln hdm
            dsimp only at hst hdl hln hdm
            rw [hdl] at e2 hln hdm
            have HAJ := zH hajn
            have HDM := zH hdm
            have HST0 := zH hst
            have HDLN := zH hdl
            have hdA : dA = none → k = 0 := fun e => by
              rcases hdm with h | ⟨b', o', h, -⟩
              · exact h
              · rw [e] at h; cases h
            have HDA := zH hdA
            clear hdm hLw hag hst hdl hcn hajn hdj hdA hL heq hJp hMp
            obtain ⟨hs7, k7, -⟩ := K7.out
            have k7a := K7.out.c1
            gi_wp2_with fail
            clear k7a hs7
            obtain ⟨W3, hW3⟩ : ∃ W3, wq.alloc (.cells #[.int .i64 av, .bool ar, .slice dA k dC] 163) = W3 := ⟨_, rfl⟩
            rw [hW3]
            have K12 : Hid (Blk W3 wq.heap.size #[.int .i64 av, .bool ar, .slice dA k dC]) := by subst hW3; exact zH (Blk.new _ _ _)
            have hv8 : ∀ q, u8.ownBlock = some q → q < wq.heap.size := fun q hq => (HST.out.own.lt q hq).2
            have hne0 : Hid (u8.ownBlock ≠ some wq.heap.size) := zH (fun e => by have := hv8 _ e; omega)
            have HST3 : Hid (StpM p (wo.heap.size + 1) T u8 u10 da W3) := by subst hW3; exact zH (HST.out.to (bAlloc (bSelf _) _))
            have HB3 : Hid (Below wo.heap.size wo W3) := by subst hW3; exact zH (bAlloc HB1.out _)
            have K73 : Hid (Blk W3 wo.heap.size #[.int .i64 lo, .int .i64 hi]) := by subst hW3; exact zH (K7.out.alloc _)
            have hs4 : wq.heap.size < W3.heap.size := by subst hW3; simp
            clear hW3 e0 e1 e2 k7 hv8
            gi_loopw [8, 10, 13, 14, 15, 16] (fun v8 v10 v13 _ _ _ wi => ∃ (i : Nat) (T1 : Tks) (da1 : Nat → Option Addr × Nat), v13 = .int .i64 (lo + (i : Int)) ∧ lo + (i : Int) ≤ hi + 1 ∧ Hid (T1 = ((rngL (lo, hi)).take i).foldl (tkD p ((av, ar), dl)) T) ∧ Hid (StpM p (wo.heap.size + 1) T1 v8 v10 da1 wi) ∧ Hid (Below wo.heap.size wo wi) ∧ Hid (Blk wi wo.heap.size #[.int .i64 lo, .int .i64 hi]) ∧ Hid (Blk wi wq.heap.size #[.int .i64 av, .bool ar, .slice dA k dC]) ∧ Hid (v8.ownBlock ≠ some wq.heap.size) ∧ Hid (∀ x ∈ T1.aft, x.2.length = k + 1) ∧ wq.heap.size < wi.heap.size) (fun _ _ v13 _ _ _ _ => (hi + 1 - intOf v13).toNat)
            case atStart => exact ⟨0, T, da, by simp, by omega, zH rfl, HST3, HB3, K73, K12, hne0, HDL, hs4⟩
            case round =>
              obtain ⟨i, T1, da1, rfl, hi1, hT1, HST1, HB4, K74, K124, hne1, HDL1, hsz4⟩ := hrel
              obtain ⟨wi, hwi⟩ : ∃ wi, wi = wr := ⟨_, rfl⟩
              subst hwi
              obtain ⟨hs7, k7, -⟩ := K74.out
              by_cases hin : lo + (i : Int) ≤ hi
              · have HFi := zH (HI.out.fr.to HB4.out)
                obtain ⟨dn, hdn⟩ : ∃ d, lo + (i : Int) = d := ⟨_, rfl⟩
                have hilt : i < (rngL (lo, hi)).length := by rw [rngL_len]; dsimp only; omega
                have HFT : Hid (((rngL (lo, hi)).take (i + 1)).foldl (tkD p ((av, ar), dl)) T = tkD p ((av, ar), dl) T1 dn) := zH (by rw [fold_take hilt, hT1.out, ← hdn])
                have HDN := zH hdn
                have hd0 : 0 ≤ dn := by omega
                have hd1 : dn ≤ 50 := by omega
                rw [hdn] at hin hi1 ⊢
                obtain ⟨hsP, kP, -⟩ := HFi.out.P
                obtain ⟨hs12, k12, -⟩ := K124.out
                clear hdn hilt hi1
                gi_wp2_with fail
                refine ⟨trivial, fun h => by simp [Fence.wide] at h, ?_⟩
                refine (callsIn_wide.2 (HNX.out wi (av, ar) HST0.out dn ⟨hd0, hd1⟩ HFi.out.RL)).mono ?_
                rintro e w5 ⟨rfl, hb5⟩
                have HB5 := zH (bThen HB4.out hb5)
                have K75 := zH (K74.out.to hb5)
                have K125 := zH (K124.out.to hb5)
                have HST5 := zH (HST1.out.to hb5)
                have hs5 : wq.heap.size < w5.heap.size := by have := hb5.size; omega
                have HTO : Hid (∀ t, nxtA p (av, ar) dn = some t → (nxtA p (av, ar) dn).getD (0, false) = t ∧ (nxtA p (av, ar) dn).isSome = true) := zH (fun t h => by rw [h]; exact ⟨rfl, rfl⟩)
                have HNO : Hid (nxtA p (av, ar) dn = none → (nxtA p (av, ar) dn).getD (0, false) = (0, false) ∧ (nxtA p (av, ar) dn).isSome = false) := zH (fun h => by rw [h]; exact ⟨rfl, rfl⟩)
                obtain ⟨nx, hnx⟩ : ∃ x, nxtA p (av, ar) dn = x := ⟨_, rfl⟩
                obtain ⟨tt, htt⟩ : ∃ x, (nxtA p (av, ar) dn).getD (0, false) = x := ⟨_, rfl⟩
                obtain ⟨ok, hok⟩ : ∃ x, (nxtA p (av, ar) dn).isSome = x := ⟨_, rfl⟩
                rw [htt, hok, hnx] at HTO HNO
                rw [htt, hok]
                have HNXT := zH hnx
                clear htt hok hnx hb5 kP k12 k7 HST1 hs7 hsP hs12
                obtain ⟨t1, t2⟩ := tt
                dsimp only
                have k125 := K125.out.c1
                gi_wp2_with fail
                clear k125
                obtain ⟨W6, hW6⟩ : ∃ W, w5.alloc (.cells #[.int .i64 t1, .bool t2] 53) = W := ⟨_, rfl⟩
                rw [hW6]
                have K14 : Hid (Blk W6 w5.heap.size #[.int .i64 t1, .bool t2]) := by subst hW6; exact zH (Blk.new _ _ _)
                have HB6 : Hid (Below wo.heap.size wo W6) := by subst hW6; exact zH (bAlloc HB5.out _)
                have K76 : Hid (Blk W6 wo.heap.size #[.int .i64 lo, .int .i64 hi]) := by subst hW6; exact zH (K75.out.alloc _)
                have K126 : Hid (Blk W6 wq.heap.size #[.int .i64 av, .bool ar, .slice dA k dC]) := by subst hW6; exact zH (K125.out.alloc _)
                have HST6 : Hid (StpM p (wo.heap.size + 1) T1 u8 u10 da1 W6) := by subst hW6; exact zH (HST5.out.to (bAlloc (bSelf _) _))
                have hs6 : w5.heap.size < W6.heap.size := by subst hW6; simp
                clear hW6 HB5 K75 K125 HST5
                refine ⟨trivial, fun h => by simp [Fence.wide] at h, ?_⟩
                refine (callsIn_wide.2 (Clip_any dA k dC _ (by omega) hln HDA.out)).mono ?_
                rintro e w' ⟨rfl, rfl⟩
                have HOLD : Hid (∀ b, dA = some b → ∀ j u, (dl.map fun z => Value.int .i64 z)[j]? = some u → (W6.alloc (.cells #[.int .i64 dn] 3)).cell? (b.add j) = some u) := zH (fun b e => by subst e; exact Reads.news' (by rw [HDLN.out]; exact (HDM.out.to HB6.out).alloc _))
                have hlm : (dl.map fun z => Value.int .i64 z).length = k * 1 := by simpa using HDLN.out
                have HLM := zH hlm
                have hu8 : ∀ q, u8.ownBlock = some q → wo.heap.size + 1 + 1 ≤ q ∧ q < W6.heap.size := HST6.out.own.lt
                have HU8 := zH hu8
                clear hlm hu8
                cases nx with
                | none =>
                  obtain ⟨htt, hok⟩ := HNO.out rfl
                  cases htt
                  subst hok
                  clear HTO HNO K14
                  have HNXT' := zH (HNXT.out)
                  cases hem : T1.emp with
                  | none =>
                    have h10 := HST6.out.em
                    rw [hem] at h10
                    obtain rfl : u10 = .slice none 0 0 := h10
                    gi_wp2_with (gi_at_builtin; refine wpListIn_grows rtInts rfl (.tmp 55) (.tmp 57) rfl dA k k (dl.map fun z => Value.int .i64 z) rfl (fun e => ⟨HDA.out e, HDA.out e⟩) HLM.out HOLD.out ⟨W6.heap.size, 0, none⟩ 1 1 [.int .i64 dn] rfl rfl (cell_one_new _ _ _) (by simp [Value.oneCell']) (by omega) (by unfold maxLen; omega) (by omega) ?_; intro v' w7 hown' hgrow; obtain ⟨g, c', rfl⟩ := ownsRow_succ hown'; have HO := zH hown'; have HB7 : Hid (Below W6.heap.size W6 w7) := zH ((bAlloc (bSelf W6) _).grown hgrow (by simp) (fun k e => by cases e)); clear hown' hgrow)
                    go_roundw
                    case rel =>
                      have hgl : W6.heap.size + 1 ≤ g ∧ g < w7.heap.size := by have := HO.out.lt g rfl; simpa using this
                      have hrow := HO.out
                      rw [show (dl.map fun z => Value.int .i64 z) ++ [.int .i64 dn] = (dl ++ [dn]).map fun z => Value.int .i64 z by simp, show k + 1 = (dl ++ [dn]).length by rw [List.length_append, HDLN.out]; rfl] at hrow
                      obtain ⟨a', cap', e, hcp, hrd7, -⟩ := Reads.of_owns' hrow
                      cases e
                      have hdl7 : (dl ++ [dn]).length = k + 1 := by rw [List.length_append, HDLN.out]; rfl
                      have hs7 : W6.heap.size ≤ w7.heap.size := HB7.out.size
                      exact ⟨i + 1, ⟨T1.aft, some (dl ++ [dn])⟩, da1, congrArg (Value.int .i64) (by have := HDN.out; omega), by have := HDN.out; omega, zH ((tkD_no (a := ((av, ar), dl)) HNXT.out hem).symm.trans HFT.out.symm), zH (by have := (HST6.out.to HB7.out).empt hcp hrd7 (by have := HB6.out.size; omega) (by omega) (fun e => by have := HU8.out _ e; omega); rw [hdl7] at this; exact this), zH (HB6.out.trans (HB7.out.mono HB6.out.size)), zH (K76.out.to HB7.out), zH (K126.out.to HB7.out), zH (hne1.out), zH (HDL1.out), by omega⟩
                    case measure => simp [intOf]; omega
                  | some e0 =>
                    have h10 := HST6.out.em
                    rw [hem] at h10
                    obtain ⟨be, ce, h10, -⟩ := h10
                    subst h10
                    gi_wp2_with (gi_at_builtin; refine wpListIn_grows rtInts rfl (.tmp 55) (.tmp 57) rfl dA k k (dl.map fun z => Value.int .i64 z) rfl (fun e => ⟨HDA.out e, HDA.out e⟩) HLM.out HOLD.out ⟨W6.heap.size, 0, none⟩ 1 1 [.int .i64 dn] rfl rfl (cell_one_new _ _ _) (by simp [Value.oneCell']) (by omega) (by unfold maxLen; omega) (by omega) ?_; intro v' w7 hown' hgrow; obtain ⟨g, c', rfl⟩ := ownsRow_succ hown'; have HO := zH hown'; have HB7 : Hid (Below W6.heap.size W6 w7) := zH ((bAlloc (bSelf W6) _).grown hgrow (by simp) (fun k e => by cases e)); clear hown' hgrow)
                    go_roundw
                    case rel =>
                      have hgl : W6.heap.size + 1 ≤ g ∧ g < w7.heap.size := by have := HO.out.lt g rfl; simpa using this
                      have hrow := HO.out
                      rw [show (dl.map fun z => Value.int .i64 z) ++ [.int .i64 dn] = (dl ++ [dn]).map fun z => Value.int .i64 z by simp, show k + 1 = (dl ++ [dn]).length by rw [List.length_append, HDLN.out]; rfl] at hrow
                      obtain ⟨a', cap', e, hcp, hrd7, -⟩ := Reads.of_owns' hrow
                      cases e
                      have hdl7 : (dl ++ [dn]).length = k + 1 := by rw [List.length_append, HDLN.out]; rfl
                      have hs7 : W6.heap.size ≤ w7.heap.size := HB7.out.size
                      exact ⟨i + 1, T1, da1, congrArg (Value.int .i64) (by have := HDN.out; omega), by have := HDN.out; omega, zH ((tkD_no2 (a := ((av, ar), dl)) HNXT.out hem).symm.trans HFT.out.symm), zH (HST6.out.to HB7.out), zH (HB6.out.trans (HB7.out.mono HB6.out.size)), zH (K76.out.to HB7.out), zH (K126.out.to HB7.out), zH (hne1.out), zH (HDL1.out), by omega⟩
                    case measure => simp [intOf]; omega
                | some t' =>
                  obtain ⟨htt, hok⟩ := HTO.out t' rfl
                  cases htt
                  subst hok
                  clear HTO HNO
                  have hstk := nxtA_ok HNXT.out
                  have hstw : StW (t1, t2) := ⟨by have := hstk.1; dsimp only at *; omega, by have := hstk.2; have := cap_le HP.out; dsimp only at *; omega⟩
                  have HSK := zH hstk
                  have HSW := zH hstw
                  clear hstk hstw
                  cases hkn : T1.aft.any (fun x => x.1 == (t1, t2)) with
                  | true =>
                    have HKN := zH hkn
                    gi_wp2_with (gi_at_builtin; refine wpListIn_grows rtInts rfl (.tmp 55) (.tmp 57) rfl dA k k (dl.map fun z => Value.int .i64 z) rfl (fun e => ⟨HDA.out e, HDA.out e⟩) HLM.out HOLD.out ⟨W6.heap.size, 0, none⟩ 1 1 [.int .i64 dn] rfl rfl (cell_one_new _ _ _) (by simp [Value.oneCell']) (by omega) (by unfold maxLen; omega) (by omega) ?_; intro v' w7 hown' hgrow; obtain ⟨g, c', rfl⟩ := ownsRow_succ hown'; have HO := zH hown'; have HB7 : Hid (Below W6.heap.size W6 w7) := zH ((bAlloc (bSelf W6) _).grown hgrow (by simp) (fun k e => by cases e)); clear hown' hgrow; have hask := (HST6.out.to HB7.out).set.ask HSW.out; rw [HKN.out] at hask; obtain ⟨hs14, k14, -⟩ := K14.out.to HB7.out)
                    go_roundw
                    case rel =>
                      have hgl : W6.heap.size + 1 ≤ g ∧ g < w7.heap.size := by have := HO.out.lt g rfl; simpa using this
                      have hrow := HO.out
                      rw [show (dl.map fun z => Value.int .i64 z) ++ [.int .i64 dn] = (dl ++ [dn]).map fun z => Value.int .i64 z by simp, show k + 1 = (dl ++ [dn]).length by rw [List.length_append, HDLN.out]; rfl] at hrow
                      obtain ⟨a', cap', e, hcp, hrd7, -⟩ := Reads.of_owns' hrow
                      cases e
                      have hdl7 : (dl ++ [dn]).length = k + 1 := by rw [List.length_append, HDLN.out]; rfl
                      have hs7 : W6.heap.size ≤ w7.heap.size := HB7.out.size
                      exact ⟨i + 1, T1, da1, congrArg (Value.int .i64) (by have := HDN.out; omega), by have := HDN.out; omega, zH ((tkD_old (a := ((av, ar), dl)) HNXT.out HKN.out).symm.trans HFT.out.symm), zH (HST6.out.to HB7.out), zH (HB6.out.trans (HB7.out.mono HB6.out.size)), zH (K76.out.to HB7.out), zH (K126.out.to HB7.out), zH (hne1.out), zH (HDL1.out), by omega⟩
                    case measure => simp [intOf]; omega
                  | false =>
                    have HKN := zH hkn
                    have hfew1 := few_sts HP.out HST6.out.nd HST6.out.stk
                    gi_wp2_with (first | (gi_at_builtin; refine wpListIn_grows rtInts rfl (.tmp 55) (.tmp 57) rfl dA k k (dl.map fun z => Value.int .i64 z) rfl (fun e => ⟨HDA.out e, HDA.out e⟩) HLM.out HOLD.out ⟨W6.heap.size, 0, none⟩ 1 1 [.int .i64 dn] rfl rfl (cell_one_new _ _ _) (by simp [Value.oneCell']) (by omega) (by unfold maxLen; omega) (by omega) ?_; intro v' w7 hown' hgrow; obtain ⟨g, c', rfl⟩ := ownsRow_succ hown'; have HO := zH hown'; have HB7 : Hid (Below W6.heap.size W6 w7) := zH ((bAlloc (bSelf W6) _).grown hgrow (by simp) (fun k e => by cases e)); clear hown' hgrow; have hask := (HST6.out.to HB7.out).set.ask HSW.out; rw [HKN.out] at hask; obtain ⟨W8, hput, hset8, hg8⟩ := (HST6.out.to HB7.out).set.put HSW.out (by unfold maxLen; omega); have HSET8 := zH hset8; have HG8 := zH hg8; have K148 := blk_grown (K14.out.to HB7.out) hg8 (fun e => by injection e with e; omega); obtain ⟨hs14, k14, -⟩ := K14.out.to HB7.out; obtain ⟨hs148, k148, -⟩ := K148; have HROW8 := zH (((HST6.out.to HB7.out).own.kept hg8 (.inr (fun e => by have := HU8.out _ e; omega))).alloc (.cells #[.int .i64 t1, .bool t2, .slice (some ⟨g, 0, none⟩) (k + 1) c'] 163)); have HNN8 := zH (Blk.new W8 #[.int .i64 t1, .bool t2, .slice (some ⟨g, 0, none⟩) (k + 1) c'] 163).news; clear hset8 hg8 hkn) | (gi_at_builtin; refine wpListIn_app (wo.heap.size + 1 + 1) rtArr rfl (.tmp 77) (.tmp 81) rfl u8 T1.aft.length _ rfl HROW8.out ⟨W8.heap.size, 0, none⟩ 1 1 [.int .i64 t1, .bool t2, .slice (some ⟨g, 0, none⟩) (k + 1) c'] rfl rfl HNN8.out (by simp [Value.oneCell']) (by unfold maxLen; omega) (by omega) (by have := HG8.out.size; have := HB7.out.size; have := HB6.out.size; simp; omega) ?_; intro v9 w9 hown9 hg9 _ hw9; have HO9 := zH hown9; have HG9 := zH hg9; have HW9 := zH hw9; clear hown9 hg9 hw9))
                    go_roundw
                    case rel =>
                      have hgl : W6.heap.size + 1 ≤ g ∧ g < w7.heap.size := by have := HO.out.lt g rfl; simpa using this
                      have hrow := HO.out
                      rw [show (dl.map fun z => Value.int .i64 z) ++ [.int .i64 dn] = (dl ++ [dn]).map fun z => Value.int .i64 z by simp, show k + 1 = (dl ++ [dn]).length by rw [List.length_append, HDLN.out]; rfl] at hrow
                      obtain ⟨a', cap', e, hcp, hrd7, -⟩ := Reads.of_owns' hrow
                      cases e
                      have hdl7 : (dl ++ [dn]).length = k + 1 := by rw [List.length_append, HDLN.out]; rfl
                      have hs7 : W6.heap.size ≤ w7.heap.size := HB7.out.size
                      have h8 : w7.heap.size ≤ W8.heap.size := HG8.out.size
                      have h9 : W8.heap.size + 1 ≤ w9.heap.size := by have := HG9.out.size; simpa using this
                      have h6 := HB6.out.size
                      have ho9 := HO9.out
                      rw [← hdl7] at ho9
                      have hu8 := HU8.out
                      have hbl : Below wo.heap.size wo w9 := (bAlloc ((HB6.out.trans (HB7.out.mono HB6.out.size)).grown HG8.out (by omega) (fun k e => by cases e; omega)) _).grown HG9.out (by simp only [World.size_alloc]; omega) (fun k e => by have := hu8 _ e; omega)
                      have hk7 : Blk w9 wo.heap.size #[.int .i64 lo, .int .i64 hi] := blk_grown ((blk_grown (K76.out.to HB7.out) HG8.out (fun e => by injection e with e; omega)).alloc _) HG9.out (fun e => by have := hu8 _ e; omega)
                      have hk12 : Blk w9 wq.heap.size #[.int .i64 av, .bool ar, .slice dA k dC] := blk_grown ((blk_grown (K126.out.to HB7.out) HG8.out (fun e => by injection e with e; omega)).alloc _) HG9.out hne1.out
                      have hst9 := StpM.add _ (HST6.out.to HB7.out) HSET8.out HG8.out ho9 HG9.out HW9.out hcp hrd7 (by omega) hgl.2 (fun e => by have := hu8 _ e; omega) HSK.out HKN.out
                      refine ⟨i + 1, ⟨T1.aft ++ [((t1, t2), dl ++ [dn])], T1.emp⟩, daS da1 T1.aft.length g c', congrArg (Value.int .i64) (by have := HDN.out; omega), by have := HDN.out; omega, zH ((tkD_new (a := ((av, ar), dl)) HNXT.out HKN.out).symm.trans HFT.out.symm), zH hst9, zH hbl, zH hk7, zH hk12, zH ?_, zH ?_, by omega⟩
                      · rcases HW9.out with h | h
                        · rw [h]; exact hne1.out
                        · rw [h]; intro e; injection e with e; simp only [World.size_alloc] at e; omega
                      · intro x hx
                        rcases List.mem_append.1 hx with hx | hx
                        · exact HDL1.out x hx
                        · simp only [List.mem_cons, List.not_mem_nil, or_false] at hx; subst hx; exact hdl7
                    case measure => simp [intOf]; omega
              · gi_wp2_with fail
                go_roundw
                case rel =>
                  have hil : (rngL (lo, hi)).length = i := by rw [rngL_len]; dsimp only; omega
                  exact ⟨j + 1, T1, da1, congrArg (Value.int .i64) (by omega), by omega, zH (by rw [fold_now hlj, ← hT.out, HAJ.out, hT1.out, ← hil, List.take_length]), HST1, HB4, K74, HDL1, by omega⟩
                case measure => simp [intOf]; omega
          · obtain rfl : j = now.length := by omega
            have hTL : T = tkL p (lo, hi) now := by rw [hT.out, List.take_length]; rfl
            obtain ⟨pre, M, ds, heq, hJp, hMp, hL⟩ := HI.out.ex
            have hJq := HJ.out _ _ _ _ hJp (Agree.of_below HB1.out (by omega))
            have hen := HST.out.enc (M := M) (fun q hq => by have := (hMp q hq).1; omega)
            have hdr : cls.drop k = (lo, hi) :: cls.drop (k + 1) := by rw [← HR.out]; rw [List.drop_eq_getElem_cons HKC.out, fg_lt HKC.out]
            have hFq := HI.out.fr.to HB1.out
            have hMq : ∀ q, M q → q < wq.heap.size ∧ ¬ TkR p cls al (some ⟨b, off, none⟩) bs bc bp q := fun q hq => ⟨by have := (hMp q hq).1; omega, (hMp q hq).2⟩
            obtain ⟨a', c', v', ds', e, hc', hL', -⟩ := id hen
            cases hem : T.emp with
            | some e0 =>
              have hsp : tks p cls [((s1, sr), [])] = pre ++ (T.aft, T.emp) :: [] := by rw [heq, hdr, tksT_some (hTL ▸ hem), ← hTL, hem]
              have h10 := HST.out.em
              rw [hem] at h10
              obtain ⟨be, ce, h10, -⟩ := h10
              subst h10
              have hy0 := HY.out pre (T.aft, T.emp) #[u8, .slice (some ⟨be, 0, none⟩) e0.length ce] [] M wq hsp hen hJq
              obtain ⟨fn, tmps, assign, body, hy, hRd⟩ := hy0
              have hRd := zH hRd
              have HSP := zH hsp
              clear hTL hsp hen e heq hJq hL hL' hJp
              gi_wp2_with fail
              refine ⟨fun h => by simp [Fence.wide] at h, ?_⟩
              refine hRd.out.mono ?_
              rintro e W3 (⟨rfl, M3, hJ3, hU3⟩ | ⟨rfl, hJx⟩)
              · gi_wp2_with fail
                refine bodyPost_ret (results_none rfl _ _ _) rfl ?_
                exact ⟨⟨_, rfl⟩, .inl ⟨_, HSP.out ▸ hJ3⟩⟩
              · gi_wp2_with fail
                refine bodyPost_ret (results_none rfl _ _ _) rfl ?_
                exact ⟨⟨_, rfl⟩, .inr ⟨_, _, _, HSP.out, hJx⟩⟩
            | none =>
              have hsp : tks p cls [((s1, sr), [])] = pre ++ (T.aft, T.emp) :: tksT p (cls.drop (k + 1)) T.aft := by rw [heq, hdr, tksT_none (hTL ▸ hem), ← hTL, hem, tks_eq]
              have h10 := HST.out.em
              rw [hem] at h10
              obtain rfl : u10 = .slice none 0 0 := h10
              injection e with e; injection e with e1 e; dsimp only at e1 hL' hc'; subst e1
              have hy0 := HY.out pre (T.aft, T.emp) _ _ M wq hsp hen hJq
              obtain ⟨fn, tmps, assign, body, hy, hRd⟩ := hy0
              have hRd := zH hRd
              have HSP := zH hsp
              have HL' := zH hL'
              have HHF := zH hFq
              have HHM := zH hMq
              clear hTL hsp hen e heq hJq hL hL' hJp hFq hMq
              gi_wp2_with fail
              refine ⟨fun h => by simp [Fence.wide] at h, ?_⟩
              refine hRd.out.mono ?_
              rintro e W3 (⟨rfl, M3, hJ3, hU3⟩ | ⟨rfl, hJx⟩)
              · have hs3w := hU3.size
                have HNXI : Hid (TkH p (s1, sr) cls a al (some ⟨b, off, none⟩) cap cl cc bs bc bp (k + 1) J a' c' T.aft W3) := zH (TkH.mk' HHF.out HHM.out HL'.out hU3 hJ3 (by rw [HSP.out, List.append_assoc]; rfl) hc' HST.out.stk HST.out.nd HDL.out)
                clear hJ3 hU3
                gi_wp2_with fail
                go_roundw
                case rel => exact ⟨k + 1, T.aft, a', c', congrArg (Value.int .i64) (by omega), by omega, rfl, HNXI, by omega⟩
                case measure => simp [intOf]; omega
              · gi_wp2_with fail
                refine bodyPost_ret (results_none rfl _ _ _) rfl ?_
                exact ⟨⟨_, rfl⟩, .inr ⟨_, _, _, HSP.out, hJx⟩⟩
      · obtain rfl : k = n := by omega
        obtain ⟨pre, M, ds, heq, hJp, hMp, hL⟩ := HI.out.ex
        have hpre : tks p cls [((s1, sr), [])] = pre := by rw [heq, show cls.drop k = [] from List.drop_eq_nil_of_le (Nat.le_of_eq HN.out)]; unfold tksT; rw [List.append_nil]
        have HQ : Hid (∃ M', J (tks p cls [((s1, sr), [])]) M' wo) := zH ⟨M, hpre ▸ hJp⟩
        clear heq hJp hMp hL hpre
        gi_wp2_with fail
        first | refine bodyPost_ret (results_none rfl _ _ _) rfl ?_ | refine bodyPost_end (results_none rfl _ _ _) rfl ?_
        exact ⟨⟨_, rfl⟩, .inl HQ.out⟩
  · gi_wp2_with fail
    refine bodyPost_ret (results_none rfl _ _ _) rfl ?_
    exact ⟨⟨_, rfl⟩, .inr ⟨[], _, _, by rw [tks_eq]; rfl, hJx⟩⟩
end
end Go.Proofs.YtbpcapcgbnbknaaGreat
