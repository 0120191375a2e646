/-
  Texts of this claim, in their build order: OW1 OW2 OW3 OW4 OR10.
-/
import Derived.Test.YtjfedpblkejmkaaGreatEve19
import Derived.Test.YtjfedpblkejmkaaGreatEve18
import Derived.Test.YtjfedpblkejmkaaGreatEve30
import Derived.Test.YtjfedpblkejmkaaGreatEve42
import Derived.Test.YtjfedpblkejmkaaGreatEve43
import Derived.Test.YtjfedpblkejmkaaGreatEve23

/-
  Plain laws for OilWitness: when there is no witness, what a run over demands answers.
-/
namespace Go.Proofs.YtjfedpblkejmkaaGreat

theorem witA_none {p : Plt} {s : OSt} {lim : Int} {c : List (Int × Int)} : witA p lim (tks p c [(s, [])]) = none ↔ ∀ k, k ≤ c.length → ∀ ds, inC (c.take k) ds → GdQ p s lim ds := by
  obtain ⟨h1, h2⟩ := wit_law (lim := lim) c [] [(s, [])] (LvOk.start p s)
  simp only [List.nil_append, List.length_nil] at h1 h2
  constructor
  · intro h k hk ds hd
    exact h2 h k (Nat.zero_le _) hk ds hd
  · intro h
    cases e : witA p lim (tks p c [(s, [])]) with
    | none => rfl
    | some w =>
      have hw := h1 w e
      exact absurd (h _ hw.len w hw.cls) hw.bad
theorem run_none {p : Plt} : ∀ {ds : List Int} {s : OSt}, (∀ k, k < ds.length → wthn (gi ds k) 0 50 = true) → goQ p s ds = none → (runA p s ds).2 = 22
  | [], s, _, h => by simp [goQ] at h
  | d :: ds, s, hf, h => by
    have h0 : wthn d 0 50 = true := hf 0 (by simp)
    have h' : (nxtA p s d).bind (fun u => goQ p u ds) = none := h
    unfold runA
    rw [if_neg (by rw [h0]; simp)]
    cases e : nxtA p s d with
    | none => rfl
    | some t =>
      rw [e] at h'
      exact run_none (fun k hk => hf (k + 1) (by simp only [List.length_cons]; omega)) h'
theorem run_some {p : Plt} : ∀ {ds : List Int} {s t : OSt}, (∀ k, k < ds.length → wthn (gi ds k) 0 50 = true) → goQ p s ds = some t → (runA p s ds).2 = 0 ∧ (runA p s ds).1.length = ds.length ∧ sg (s :: (runA p s ds).1) ds.length = t
  | [], s, t, _, h => by
    have : s = t := by simpa [goQ] using h
    subst this
    exact ⟨rfl, rfl, rfl⟩
  | d :: ds, s, t, hf, h => by
    have h0 : wthn d 0 50 = true := hf 0 (by simp)
    have h' : (nxtA p s d).bind (fun u => goQ p u ds) = some t := h
    unfold runA
    rw [if_neg (by rw [h0]; simp)]
    cases e : nxtA p s d with
    | none => rw [e] at h'; cases h'
    | some u =>
      rw [e] at h'
      obtain ⟨r1, r2, r3⟩ := run_some (fun k hk => hf (k + 1) (by simp only [List.length_cons]; omega)) h'
      exact ⟨r1, by simp only [List.length_cons]; omega, r3⟩

end Go.Proofs.YtjfedpblkejmkaaGreat

/-
  Plain laws for OilWitness: the witness, its run, what is before it.
-/
namespace Go.Proofs.YtjfedpblkejmkaaGreat

theorem mem_rngL {r : Int × Int} {n : Int} (h : n ∈ rngL r) : r.1 ≤ n ∧ n ≤ r.2 := by
  unfold rngL at h
  obtain ⟨k, hk, rfl⟩ := List.mem_map.1 h
  have := List.mem_range.1 hk
  omega
theorem fgs_take {l : List (Int × Int)} {n k : Nat} (h : k < n) : fg (l.take n) k = fg l k := by
  unfold fg
  rw [List.getD_eq_getElem?_getD, List.getD_eq_getElem?_getD, List.getElem?_take, if_pos h]
theorem goQ_ok {p : Plt} : ∀ {ds : List Int} {s t : OSt}, StOk p s → goQ p s ds = some t → StOk p t
  | [], s, t, hs, h => by
    have : s = t := by simpa [goQ] using h
    subst this
    exact hs
  | d :: ds, s, t, hs, h => by
    have h' : (nxtA p s d).bind (fun u => goQ p u ds) = some t := h
    cases e : nxtA p s d with
    | none => rw [e] at h'; cases h'
    | some u => rw [e] at h'; exact goQ_ok (nxtA_ok e) h'

end Go.Proofs.YtjfedpblkejmkaaGreat

/-
  Plain laws for OilWitness: the run of a witness.
-/
namespace Go.Proofs.YtjfedpblkejmkaaGreat

theorem gis_take {l : List Int} {n k : Nat} (h : k < n) : gi (l.take n) k = gi l k := by
  unfold gi
  rw [List.getD_eq_getElem?_getD, List.getD_eq_getElem?_getD, List.getElem?_take, if_pos h]
theorem opLE_parts {p : Plt} {s : OSt} {c : List (Int × Int)} {lim : Int} (h : opLE p s.1 c lim = 0) : opSE p s.1 = 0 ∧ (chCl c).2 = 0 ∧ unl (wthn lim 0 1000) 2 = 0 := by
  obtain ⟨h1, h2⟩ := firstE2.1 (show firstE [_, _] = 0 from h)
  obtain ⟨h3, h4⟩ := firstE2.1 (show firstE [_, _] = 0 from h1)
  exact ⟨h3, h4, h2⟩
theorem rnR_ok {p : Plt} {s : OSt} {ds : List Int} (h : opSE p s.1 = 0) (hl : ds.length ≤ 20) : rnR p s ds = (runA p s ds).2 :=
  runR_of (firstE2.2 ⟨h, by rw [unlZ (by decide), decide_eq_true_eq]; omega⟩)
end Go.Proofs.YtjfedpblkejmkaaGreat

/-
  Plain law for OilWitness and OilEvery: classes of single demands, and classes of fewer ticks.
-/
namespace Go.Proofs.YtjfedpblkejmkaaGreat
open Go.RowKit

theorem rngL_in {r : Int × Int} {n : Int} (h1 : r.1 ≤ n) (h2 : n ≤ r.2) : n ∈ rngL r := by
  unfold rngL
  exact List.mem_map.2 ⟨(n - r.1).toNat, List.mem_range.2 (by omega), by omega⟩

/-- The k-th demand that xs chooses in a class; the class of these demands alone. -/
def ownD (c : List (Int × Int)) (xs : List Int) (k : Nat) : Int := (fg c k).1 + gi xs k % ((fg c k).2 - (fg c k).1 + 1)
theorem ownD_in {c : List (Int × Int)} {xs : List Int} {k : Nat} (h : (fg c k).1 ≤ (fg c k).2) : (fg c k).1 ≤ ownD c xs k ∧ ownD c xs k ≤ (fg c k).2 := by
  unfold ownD
  have h1 := Int.emod_nonneg (gi xs k) (show (fg c k).2 - (fg c k).1 + 1 ≠ 0 by omega)
  have h2 := Int.emod_lt_of_pos (gi xs k) (show 0 < (fg c k).2 - (fg c k).1 + 1 by omega)
  omega
end Go.Proofs.YtjfedpblkejmkaaGreat

/-
  The reference and the law: RangeErr, CheckClass, ClassErr, openErr.
-/
namespace Go.Proofs.YtjfedpblkejmkaaGreat
open Go.RowKit
attribute [local go_sem] Oper.semAt_some

theorem rgE_val (lo hi : Int) : rgE (lo, hi) = if wthn lo 0 50 = false then 2 else if wthn hi 0 50 = false then 2 else if hi < lo then 9 else 0 := by
  unfold rgE
  dsimp only
  by_cases h : hi < lo
  · rw [if_pos h, decide_eq_false (show ¬ lo ≤ hi by omega)]
    cases wthn lo 0 50 <;> cases wthn hi 0 50 <;> rfl
  · rw [if_neg h, decide_eq_true (show lo ≤ hi by omega)]
    cases wthn lo 0 50 <;> cases wthn hi 0 50 <;> rfl

set_option maxHeartbeats 800000 in
set_option maxRecDepth 100000 in
theorem rRangeErr_any (lo hi : Int) (w : World) :
    Calls Tryz.prog 53 #[.agg #[.int .i64 lo, .int .i64 hi]] w fun e w' => e = .returned (.int .i64 (rgE (lo, hi))) ∧ Below w.heap.size w w' := by
  have H1 := Lib.hid (fun W => rFlowErr_any lo W)
  have H2 := Lib.hid (fun W => rFlowErr_any hi W)
  have HV := Lib.hid (rgE_val lo hi)
  obtain ⟨r, hr⟩ : ∃ r, rgE (lo, hi) = r := ⟨_, rfl⟩
  rw [hr] at HV ⊢
  obtain ⟨b1, hb1⟩ : ∃ b, wthn lo 0 50 = b := ⟨_, rfl⟩
  obtain ⟨b2, hb2⟩ : ∃ b, wthn hi 0 50 = b := ⟨_, rfl⟩
  rw [hb1] at H1 HV
  rw [hb2] at H2 HV
  clear hr hb1 hb2
  cases b1
  · obtain rfl : r = 2 := HV.out
    clear HV
    go_enter Tryz.func53, Tryz.ntmps53
    go_wp2_with (go_at_call 33; refine (H1.out _).mono ?_; rintro e w' ⟨rfl, rfl⟩; rw [show unl false 2 = 2 from rfl])
    go_ret
    exact ⟨rfl, bAlloc (bSelf w) _⟩
  · cases b2
    · obtain rfl : r = 2 := HV.out
      clear HV
      go_enter Tryz.func53, Tryz.ntmps53
      go_wp2_with (go_at_call 33; first | (refine (H1.out _).mono ?_; rintro e w' ⟨rfl, rfl⟩; rw [show unl true 2 = 0 from rfl]) | (refine (H2.out _).mono ?_; rintro e w' ⟨rfl, rfl⟩; rw [show unl false 2 = 2 from rfl]))
      go_ret
      exact ⟨rfl, bAlloc (bSelf w) _⟩
    · by_cases h : hi < lo
      · obtain rfl : r = 9 := by rw [HV.out, if_neg (by decide), if_neg (by decide), if_pos h]
        clear HV
        go_enter Tryz.func53, Tryz.ntmps53
        go_wp2_with (go_at_call 33; first | (refine (H1.out _).mono ?_; rintro e w' ⟨rfl, rfl⟩; rw [show unl true 2 = 0 from rfl]) | (refine (H2.out _).mono ?_; rintro e w' ⟨rfl, rfl⟩; rw [show unl true 2 = 0 from rfl]))
        go_ret
        exact ⟨rfl, bAlloc (bSelf w) _⟩
      · obtain rfl : r = 0 := by rw [HV.out, if_neg (by decide), if_neg (by decide), if_neg h]
        clear HV
        go_enter Tryz.func53, Tryz.ntmps53
        go_wp2_with (go_at_call 33; first | (refine (H1.out _).mono ?_; rintro e w' ⟨rfl, rfl⟩; rw [show unl true 2 = 0 from rfl]) | (refine (H2.out _).mono ?_; rintro e w' ⟨rfl, rfl⟩; rw [show unl true 2 = 0 from rfl]))
        go_ret
        exact ⟨rfl, bAlloc (bSelf w) _⟩

set_option maxHeartbeats 1600000 in
set_option maxRecDepth 100000 in
theorem rCheckClass_any (c : List (Int × Int)) (a : Option Addr) (cap : Nat) (w : World) (hr : Reads w a (c.length * 2) (fracs c)) :
    Calls Tryz.prog 71 #[.slice a c.length cap] w fun e w' => e = .returned (.tuple #[.int .i64 (chCl c).1, .int .i64 (chCl c).2]) ∧ Below w.heap.size w w' := by
  have HR := Lib.hid hr
  have HRG := Lib.hid (fun lo hi W => rRangeErr_any lo hi W)
  have HCH : Hid (chCl c = if 20 < c.length then (0, 8) else eachR (fun k => rgE (fg c k)) 0 c.length) := Lib.hid rfl
  obtain ⟨⟨c1, c2⟩, hc⟩ : ∃ x, chCl c = x := ⟨_, rfl⟩
  rw [hc] at HCH ⊢
  obtain ⟨n, hn⟩ : ∃ n, c.length = n := ⟨_, rfl⟩
  rw [hn] at HR HCH ⊢
  dsimp only
  clear hr hc hn
  by_cases h20 : 20 < n
  · have hq := HCH.out
    rw [if_pos h20] at hq
    injection hq with h1 h2
    subst h1 h2
    clear HCH
    go_enter Tryz.func71, Tryz.ntmps71
    go_wp2_with fail
    go_ret2
    exact ⟨rfl, bSelf w⟩
  · have hq := HCH.out
    rw [if_neg h20] at hq
    replace HCH := Lib.hid hq
    clear hq
    go_enter Tryz.func71, Tryz.ntmps71
    go_wp2_with fail
    go_loopw [4, 5] (fun s4 _ wr => ∃ k : Nat, k ≤ n ∧ s4 = .int .i64 k ∧ Hid (eachR (fun k => rgE (fg c k)) 0 n = eachR (fun k => rgE (fg c k)) k (n - k)) ∧ Hid (Below w.heap.size w wr)) (fun s4 _ _ => n - (intOf s4).toNat)
    case atStart => exact ⟨0, Nat.zero_le _, rfl, Lib.hid rfl, Lib.hid (bSelf w)⟩
    case round =>
      obtain ⟨k, hk, rfl, hee, hB⟩ := hrel
      by_cases hlt : k < n
      · have HBAD : Hid (∀ e, rgE (fg c k) = e → e ≠ 0 → (c1, c2) = ((k : Int), e)) := Lib.hid (fun e he hne => by
          have h1 := eachR_stop (err := fun k => rgE (fg c k)) hlt (by rw [he]; exact hne)
          rw [HCH.out, hee.out, h1, he])
        have HGO : Hid (rgE (fg c k) = 0 → eachR (fun k => rgE (fg c k)) 0 n = eachR (fun k => rgE (fg c k)) (k + 1) (n - (k + 1))) := Lib.hid (fun h => hee.out.trans (eachR_step (err := fun k => rgE (fg c k)) hlt h))
        obtain ⟨b, off, rfl, hb, hc⟩ := (HR.out.to hB.out).at (k := k * 2) (by omega)
        obtain ⟨⟨v, q⟩, hv⟩ : ∃ v, fg c k = v := ⟨_, rfl⟩
        have h0 : wr.cell? ⟨b, off + k * 2, none⟩ = some (.int .i64 v) := by have := hc (k * 2) (by omega); rw [fracs0, hv] at this; exact this
        have h1 : wr.cell? ⟨b, off + k * 2 + 1, none⟩ = some (.int .i64 q) := by have := hc (k * 2 + 1) (by omega); rw [fracs1, hv] at this; exact this
        rw [hv] at HBAD HGO
        clear hc hv
        obtain ⟨e0, he0⟩ : ∃ e, rgE (v, q) = e := ⟨_, rfl⟩
        have HRK := Lib.hid (fun W => HRG.out v q W)
        rw [he0] at HBAD HGO HRK
        clear he0
        by_cases hz : e0 = 0
        · subst hz
          go_wp2_with (go_at_call 53; refine (HRK.out _).mono ?_; rintro e w' ⟨rfl, hb5⟩; have HB5 := Lib.hid hb5; clear hb5)
          go_roundw
          case rel => exact ⟨k + 1, by omega, by go_num, Lib.hid (HGO.out (by first | trivial | rfl)), Lib.hid (bThen hB.out HB5.out)⟩
          case measure => simp [intOf]; omega
        · have hq := HBAD.out e0 rfl hz
          injection hq with q1 q2
          subst q1 q2
          have hz' : (c2 != 0) = true := by simpa using hz
          go_wp2_with (go_at_call 53; refine (HRK.out _).mono ?_; rintro e w' ⟨rfl, hb5⟩; have HB5 := Lib.hid hb5; clear hb5)
          go_ret2
          exact ⟨rfl, bThen hB.out HB5.out⟩
      · obtain rfl : n = k := by omega
        have hq : (c1, c2) = (0, 0) := by rw [HCH.out, hee.out, Nat.sub_self]; rfl
        injection hq with q1 q2
        subst q1 q2
        go_wp2_with fail
        go_ret2
        exact ⟨rfl, hB.out⟩

set_option maxHeartbeats 400000 in
set_option maxRecDepth 100000 in
theorem rClassErr_any (c : List (Int × Int)) (a : Option Addr) (cap : Nat) (w : World) (hr : Reads w a (c.length * 2) (fracs c)) :
    Calls Tryz.prog 81 #[.slice a c.length cap] w fun e w' => e = .returned (.int .i64 (chCl c).2) ∧ Below w.heap.size w w' := by
  have HC := Lib.hid (rCheckClass_any c a cap w hr)
  obtain ⟨⟨c1, c2⟩, hc⟩ : ∃ x, chCl c = x := ⟨_, rfl⟩
  rw [hc] at HC ⊢
  obtain ⟨n, hn⟩ : ∃ n, c.length = n := ⟨_, rfl⟩
  rw [hn] at HC ⊢
  dsimp only at HC ⊢
  clear hr hc hn
  go_enter Tryz.func81, Tryz.ntmps81
  go_wp2_with fail
  refine HC.out.mono ?_
  rintro e w' ⟨rfl, hb⟩
  have HB := Lib.hid hb
  clear hb
  go_wp2_with fail
  go_ret
  exact ⟨rfl, HB.out⟩

set_option maxHeartbeats 800000 in
set_option maxRecDepth 100000 in
theorem lOpenErr_any (p : Plt) (s : OSt) (c : List (Int × Int)) (a ac : Option Addr) (cap cc : Nat) (w : World) (hlen : p.pts.length ≤ 100000) (hr : Reads w a (p.pts.length * 2) (fracs p.pts)) (hrc : Reads w ac (c.length * 2) (fracs c)) :
    Calls Tryz.prog 35 #[.agg (plC p a cap), .agg #[.int .i64 s.1, .bool s.2], .slice ac c.length cc] w fun e w' => e = .returned (.int .i64 (opCE p s.1 c)) ∧ Below w.heap.size w w' := by
  have HPE := Lib.hid (fun W (hb : Below w.heap.size w W) => rPlantErr_any p a cap W hlen (hr.to hb))
  have HSE := Lib.hid (fun W (h0 : (chP p).2 = 0) (hb : Below w.heap.size w W) => rStateErr_any p s a cap W (by have := (chP_ok h0).pts.two; omega) hlen (hr.to hb))
  have HCE := Lib.hid (fun W (hb : Below w.heap.size w W) => rClassErr_any c ac cc W (hrc.to hb))
  have HV : Hid (opCE p s.1 c = if (chP p).2 = 0 then (if stE p s.1 = 0 then (chCl c).2 else stE p s.1) else (chP p).2) := Lib.hid (by
    unfold opCE firstE
    rw [show opSE p s.1 = if (chP p).2 = 0 then stE p s.1 else (chP p).2 from rfl]
    by_cases h : (chP p).2 = 0
    · rw [if_pos h, if_pos h]
      by_cases h2 : stE p s.1 = 0
      · rw [if_pos h2, if_pos h2]
        unfold firstE
        by_cases h3 : (chCl c).2 = 0
        · rw [if_pos h3, h3]; rfl
        · rw [if_neg h3]
      · rw [if_neg h2, if_neg h2]
    · rw [if_neg h, if_neg h, if_neg h])
  obtain ⟨ch, hch⟩ : ∃ n, (chP p).2 = n := ⟨_, rfl⟩
  obtain ⟨st, hst⟩ : ∃ n, stE p s.1 = n := ⟨_, rfl⟩
  obtain ⟨ce, hce⟩ : ∃ n, (chCl c).2 = n := ⟨_, rfl⟩
  obtain ⟨o, ho⟩ : ∃ n, opCE p s.1 c = n := ⟨_, rfl⟩
  obtain ⟨m, hm⟩ : ∃ n, p.pts.length = n := ⟨_, rfl⟩
  obtain ⟨n, hn⟩ : ∃ n, c.length = n := ⟨_, rfl⟩
  rw [hch] at HPE HSE HV
  rw [hst] at HSE HV
  rw [hce] at HCE HV
  rw [ho] at HV ⊢
  unfold plC at HPE HSE ⊢
  rw [hm] at HPE HSE ⊢
  rw [hn] at HCE ⊢
  obtain ⟨s1, sr⟩ := s
  dsimp only at HSE ⊢
  clear hch hst hce ho hm hn hr hrc hlen
  go_enter Tryz.func35, Tryz.ntmps35
  go_wp2_with fail
  refine (HPE.out _ (bAlloc (bAlloc (bSelf w) _) _)).mono ?_
  rintro e w1 ⟨rfl, hb⟩
  have K3 : Hid (Blk w1 w.heap.size #[.slice a m cap, .int .i64 p.pump, .int .i64 p.on, .int .i64 p.off]) := Lib.hid (((Blk.new _ _ _).alloc _).to hb)
  have K4 : Hid (Blk w1 (w.heap.size + 1) #[.int .i64 s1, .bool sr]) := Lib.hid ((Blk.newAt _ _ _ (by simp)).to hb)
  have HB := Lib.hid (bThen (bAlloc (bAlloc (bSelf w) _) _) hb)
  clear hb HPE
  by_cases hc : ch = 0
  · subst hc
    rw [if_pos rfl] at HV
    obtain ⟨-, k3, -⟩ := K3.out
    obtain ⟨-, k4, -⟩ := K4.out
    go_wp2_with fail
    refine (HSE.out _ (by first | trivial | rfl) HB.out).mono ?_
    rintro e w2 ⟨rfl, hb⟩
    replace HB := Lib.hid (bThen HB.out hb)
    clear hb k3 k4 K3 K4 HSE
    by_cases hs : st = 0
    · subst hs
      rw [if_pos rfl] at HV
      obtain rfl : o = ce := HV.out
      go_wp2_with fail
      refine (HCE.out _ HB.out).mono ?_
      rintro e w3 ⟨rfl, hb⟩
      replace HB := Lib.hid (bThen HB.out hb)
      clear hb HCE
      go_wp2_with fail
      go_ret
      exact ⟨rfl, HB.out⟩
    · rw [if_neg hs] at HV
      obtain rfl : o = st := HV.out
      have hs' : (o != 0) = true := by simpa using hs
      go_wp2_with fail
      go_ret
      exact ⟨rfl, HB.out⟩
  · rw [if_neg hc] at HV
    obtain rfl : o = ch := HV.out
    have hs' : (o != 0) = true := by simpa using hc
    go_wp2_with fail
    go_ret
    exact ⟨rfl, HB.out⟩

end Go.Proofs.YtjfedpblkejmkaaGreat

