/-
  Texts of this claim, in their build order: OM23.
-/
import Derived.Test.YtjfedpblkejmkaaGreatBot35
import Derived.Test.YtjfedpblkejmkaaGreatBot37
import Derived.Test.YtjfedpblkejmkaaGreatBot0

namespace Go.Proofs.YtjfedpblkejmkaaGreat
section
open Go.RowKit
attribute [local go_sem] Oper.semAt_some

def rgOk (r : Int × Int) : Prop := 0 ≤ r.1 ∧ r.2 ≤ 50 ∧ r.1 ≤ r.2
theorem opRE_ok {p : Plt} {r : Int × Int} {lim : Int} (h : opRE p r lim = 0) : PltOk p ∧ rgOk r ∧ 0 ≤ lim ∧ lim ≤ 1000 := by
  obtain ⟨h1, h2, h3⟩ := firstE3.1 (show firstE [_, _, _] = 0 from h)
  obtain ⟨g1, g2⟩ := firstE2.1 (show firstE [_, _] = 0 from h2)
  rw [unlZ (by decide)] at g1 g2 h3
  simp only [Bool.and_eq_true, wthn_iff, decide_eq_true_eq] at g1 g2 h3
  exact ⟨chP_ok h1, ⟨g1.1.1, g1.2.2, g2⟩, h3⟩
/-- The states laid into the map by the first k volumes. -/
def fillS (k : Nat) (s : OSt) : Bool := decide (0 ≤ s.1) && decide (s.1 < k)
theorem fillS_step (k : Nat) (s : OSt) : ((fillS k s || s == ((k : Int), false)) || s == ((k : Int), true)) = fillS (k + 1) s := by
  obtain ⟨v, b⟩ := s
  unfold fillS
  dsimp only
  by_cases h1 : v = (k : Int)
  · subst h1
    have e1 : decide ((k : Int) < (k : Int)) = false := decide_eq_false (by omega)
    have e2 : decide ((k : Int) < ((k + 1 : Nat) : Int)) = true := decide_eq_true (by omega)
    have e3 : decide (0 ≤ (k : Int)) = true := decide_eq_true (by omega)
    rw [e1, e2, e3]
    cases b <;> simp
  · have n1 : ((v, b) == ((k : Int), false)) = false := by simpa using fun e => absurd e h1
    have n2 : ((v, b) == ((k : Int), true)) = false := by simpa using fun e => absurd e h1
    rw [n1, n2, Bool.or_false, Bool.or_false]
    congr 1
    by_cases h2 : v < k
    · rw [decide_eq_true h2, decide_eq_true (by omega)]
    · rw [decide_eq_false h2, decide_eq_false (by omega)]
theorem fillS_all {p : Plt} {N : Nat} (hN : capV p.pts + 1 = (N : Int)) (s : OSt) : fillS N s = true ↔ s ∈ allS p := by
  rw [mem_allS]
  unfold fillS StOk
  simp only [Bool.and_eq_true, decide_eq_true_eq]
  omega
theorem allS_W {p : Plt} (hp : PltOk p) {s : OSt} (h : s ∈ allS p) : StW s := by
  have h1 := mem_allS.1 h
  have h2 := cap_le hp
  exact ⟨by have := h1.1; omega, by have := h1.2; omega⟩
/-- What holds between two sweeps. -/
structure OutS (p : Plt) (r : Int × Int) (lim : Int) (ch : Bool) (S : OSt → Bool) : Prop where
  saf : ∀ x ∈ safS p r lim, S x = true
  all : ∀ x, S x = true → x ∈ allS p
  clo : ch = false → Clo p r lim S
/-- What holds on the way of a sweep that began with S0 of M0 entries. -/
structure InS (p : Plt) (r : Int × Int) (lim : Int) (S0 : OSt → Bool) (M0 : Nat) (ch : Bool) (S L : OSt → Bool) (M : Nat) : Prop where
  saf : ∀ x ∈ safS p r lim, S x = true
  all : ∀ x, S x = true → x ∈ allS p
  sub : ∀ x, L x = true → S x = true
  no : ch = false → M = M0 ∧ ∀ x, S x = true → L x = false → jdg p r lim x S = 0
  yes : ch = true → M < M0
theorem OutS.start {p : Plt} {r : Int × Int} {lim : Int} {N : Nat} (hN : capV p.pts + 1 = (N : Int)) : OutS p r lim true (fillS N) :=
  ⟨fun x hx => (fillS_all hN x).2 ((safL_spec _ _ (Nat.le_refl _)).2.1 x hx), fun x hx => (fillS_all hN x).1 hx, fun h => by cases h⟩
theorem OutS.sweep {p : Plt} {r : Int × Int} {lim : Int} {ch : Bool} {S : OSt → Bool} (h : OutS p r lim ch S) (M : Nat) : InS p r lim S M false S S M :=
  ⟨h.saf, h.all, fun _ hx => hx, fun _ => ⟨rfl, fun x h1 h2 => by rw [h1] at h2; cases h2⟩, fun h => by cases h⟩
theorem InS.done {p : Plt} {r : Int × Int} {lim : Int} {S0 : OSt → Bool} {M0 : Nat} {ch : Bool} {S L : OSt → Bool} {M : Nat} (hp : PltOk p) (h : InS p r lim S0 M0 ch S L M) (hL : ∀ s, StW s → L s = false) : OutS p r lim ch S :=
  ⟨h.saf, h.all, fun hc x hx => (h.no hc).2 x hx (hL x (allS_W hp (h.all x hx)))⟩
theorem InS.keep {p : Plt} {r : Int × Int} {lim : Int} {S0 : OSt → Bool} {M0 : Nat} {ch : Bool} {S L : OSt → Bool} {M : Nat} {s : OSt} (h : InS p r lim S0 M0 ch S L M) (hj : jdg p r lim s S = 0) : InS p r lim S0 M0 ch S (fun x => L x && !(x == s)) M := by
  refine ⟨h.saf, h.all, fun x hx => h.sub x ?_, fun hc => ⟨(h.no hc).1, fun x h1 h2 => ?_⟩, h.yes⟩
  · cases e : L x
    · rw [e] at hx; cases hx
    · rfl
  · by_cases e : x = s
    · subst e; exact hj
    · refine (h.no hc).2 x h1 ?_
      have : (x == s) = false := by simpa using e
      rw [this] at h2
      simpa using h2
theorem InS.drop {p : Plt} {r : Int × Int} {lim : Int} {S0 : OSt → Bool} {M0 : Nat} {ch : Bool} {S L : OSt → Bool} {M M' : Nat} {s : OSt} (h : InS p r lim S0 M0 ch S L M) (hj : jdg p r lim s S ≠ 0) (hM : M' < M) : InS p r lim S0 M0 true (fun x => S x && !(x == s)) (fun x => L x && !(x == s)) M' := by
  have hs := saf_step h.saf hj
  refine ⟨fun x hx => ?_, fun x hx => h.all x ?_, fun x hx => ?_, (fun hc => by cases hc), fun _ => ?_⟩
  · have : (x == s) = false := by simpa using fun e : x = s => hs (e ▸ hx)
    rw [h.saf x hx, this]; rfl
  · cases e : S x
    · rw [e] at hx; cases hx
    · rfl
  · cases e : L x
    · rw [e] at hx; cases hx
    · rw [e] at hx
      rw [h.sub x e]; exact hx
  · cases hc : ch
    · have := (h.no hc).1; omega
    · have := h.yes hc; omega

theorem allS_few {p : Plt} (hp : PltOk p) : (allS p).length ≤ 402 := by
  have h1 := cap_pos hp
  have h2 := cap_le hp
  have e : ∀ n : Nat, ((List.range n).flatMap fun (v : Nat) => [((v : Int), false), ((v : Int), true)]).length = n * 2 := fun n => by
    induction n with
    | zero => rfl
    | succ n ih => rw [List.range_succ, List.flatMap_append, List.length_append, ih]; simp; omega
  unfold allS
  rw [e]
  omega
/-- The states of S that have come out are gathered in a row beyond block rb. -/
structure ColS (S : OSt → Bool) (rb : Nat) (W : World) (v : Value) (out : List OSt) (L : OSt → Bool) : Prop where
  own : W.ownsRow (rb + 1) stT 2 v out.length (scells out)
  nod : out.Nodup
  mem : ∀ x, x ∈ out ↔ S x = true ∧ L x = false
theorem ColS.len {S : OSt → Bool} {rb : Nat} {W : World} {v : Value} {out : List OSt} {L : OSt → Bool} {p : Plt} (h : ColS S rb W v out L) (hp : PltOk p) (ha : ∀ x, S x = true → x ∈ allS p) : out.length ≤ 402 :=
  Nat.le_trans (nodupLe h.nod (fun x hx => ha x ((h.mem x).1 hx).1)) (allS_few hp)
theorem ColS.grown {S : OSt → Bool} {rb : Nat} {W W' : World} {v : Value} {out : List OSt} {L : OSt → Bool} (h : ColS S rb W v out L) (hg : W.grownBy W' (some rb)) : ColS S rb W' v out L := by
  refine ⟨h.own.kept hg ?_, h.nod, h.mem⟩
  cases hv : v.ownBlock with
  | none => exact .inl rfl
  | some g => exact .inr (fun e => by have := (h.own.lt g hv).1; have e := Option.some.inj e; omega)
theorem ColS.add {S : OSt → Bool} {rb : Nat} {W w' : World} {v v' : Value} {out : List OSt} {L : OSt → Bool} {s : OSt} (h : ColS S rb W v out L) (hS : S s = true) (hL : L s = true) (ho : w'.ownsRow (rb + 1) stT 2 v' (out.length + 1) (scells out ++ [.int .i64 s.1, .bool s.2])) :
    ColS S rb w' v' (out ++ [s]) (fun x => L x && !(x == s)) := by
  refine ⟨?_, ?_, fun x => ?_⟩
  · rw [List.length_append, scells_app]; exact ho
  · rw [List.nodup_append]
    refine ⟨h.nod, by simp, fun a ha b hb e => ?_⟩
    have hb' : b = s := by simpa using hb
    subst hb'
    subst e
    have := ((h.mem a).1 ha).2
    rw [hL] at this; cases this
  · rw [List.mem_append, h.mem]
    by_cases e : x = s
    · subst e
      simp [hS]
    · have e2 : (x == s) = false := by simpa using e
      simp [e, e2]
/-- 1 for true. -/
def chN : Value → Nat
  | .bool true => 1
  | _ => 0
def safO (p : Plt) (r : Int × Int) (lim : Int) : List OSt := if opRE p r lim = 0 then safS p r lim else []

set_option maxHeartbeats 6400000 in
set_option maxRecDepth 100000 in
theorem SafeFor_any (p : Plt) (lo hi lim : Int) (a : Option Addr) (cap : Nat) (w : World) (hlen : p.pts.length ≤ 1000) (hr : Reads w a (p.pts.length * 2) (fracs p.pts)) :
    Calls Tryz.prog 54 #[.agg (plC p a cap), .agg #[.int .i64 lo, .int .i64 hi], .int .i64 lim] w (SPost (safO p (lo, hi) lim) (opRE p (lo, hi) lim) w) := by
  have HO := zH (fun W (hb : Below w.heap.size w W) => openRange_any p lo hi lim a cap W hlen (hr.to hb))
  have HOK := zH (fun (h : opRE p (lo, hi) lim = 0) => opRE_ok h)
  have HS : Hid (safO p (lo, hi) lim = if opRE p (lo, hi) lim = 0 then safS p (lo, hi) lim else []) := zH rfl
  obtain ⟨ve, hve⟩ : ∃ e, opRE p (lo, hi) lim = e := ⟨_, rfl⟩
  rw [hve] at HO HOK HS ⊢
  obtain ⟨vl, hvl⟩ : ∃ e, safO p (lo, hi) lim = e := ⟨_, rfl⟩
  rw [hvl] at HS ⊢
  clear hve hvl hr
  by_cases h0 : ve = 0
  · subst h0
    obtain ⟨hp, hrg, hl0, hl1⟩ := HOK.out rfl
    have hS := HS.out
    rw [if_pos rfl] at hS
    have HV : Hid (vl = safS p (lo, hi) lim) := zH hS
    have HP := zH hp
    have HJ := zH (fun W (s : OSt) S al cl bm nm (hs : StOk p s) hrl hset => judge_any p s (lo, hi) lim S a al cap cl bm nm W hp hs hrg ⟨by omega, by omega⟩ hrl hset)
    have HCP := zH (fun W al cl hrl => capacity_any p a al cap cl W (by have := hp.pts.two; omega) (by omega) hrl)
    have hc0 := cap_pos hp
    have hc1 := cap_le hp
    obtain ⟨C, hC⟩ : ∃ c, capV p.pts = c := ⟨_, rfl⟩
    rw [hC] at HCP hc0 hc1
    obtain ⟨N, hN⟩ : ∃ N : Nat, (C + 1).toNat = N := ⟨_, rfl⟩
    have hCN : C + 1 = (N : Int) := by omega
    have HCN : Hid (capV p.pts + 1 = (N : Int)) := zH (by rw [hC]; exact hCN)
    have HN : Hid (N ≤ 201) := zH (by omega)
    clear hS HS HOK hp hrg hC hN
    have hmm := @run_makeMap Tryz.prog
    go_enter Tryz.func54, Tryz.ntmps54
    go_wp2_with fail
    obtain ⟨W, hW⟩ : ∃ W, (w.alloc (.cells (plC p a cap) 44)).alloc (.cells #[.int .i64 lo, .int .i64 hi] 25) = W := ⟨_, rfl⟩
    rw [hW]
    have K4 : Hid (Blk W (w.heap.size + 1) #[.int .i64 lo, .int .i64 hi]) := by subst hW; exact zH (Blk.newAt _ _ _ (by simp))
    have HB : Hid (Below w.heap.size w W) := by subst hW; exact zH (bAlloc (bAlloc (bSelf w) _) _)
    clear hW
    refine (HO.out _ HB.out).mono ?_
    rintro e w1 ⟨al, cl, rfl, hcl, hrd, hb, hfr⟩
    replace K4 := zH (K4.out.to hb)
    replace HB := zH (bThen HB.out hb)
    have HRD := zH hrd
    clear hb hrd hfr HO
    have K8 := zH (fun o1 => (Blk.new w1 (plL p a cap al cl) 170).alloc o1)
    have k8 : ∀ (o1 : Obj) (o : Nat), ((w1.alloc (.cells (plL p a cap al cl) 170)).alloc o1).cell? ⟨w1.heap.size, o, none⟩ = (plL p a cap al cl)[o]? := fun o1 => (K8.out o1).2.1
    go_wp2_with fail
    clear k8
    obtain ⟨W2, hW2⟩ : ∃ W2, w1.alloc (.cells (plL p a cap al cl) 170) = W2 := ⟨_, rfl⟩
    rw [hW2]
    have hb2 : Below w1.heap.size w1 W2 := by subst hW2; exact bAlloc (bSelf _) _
    have K7 : Hid (Blk W2 w1.heap.size (plL p a cap al cl)) := by subst hW2; exact zH (Blk.new _ _ _)
    clear K8
    have hsz : w1.heap.size + 1 = W2.heap.size := by subst hW2; simp
    have HSZ := zH hsz
    rw [hsz]
    replace HRD := zH (HRD.out.to hb2)
    replace HB := zH (bThen HB.out hb2)
    replace K4 := zH (K4.out.to hb2)
    clear hW2 hb2 hsz
    obtain ⟨W3, hW3⟩ : ∃ W3, W2.alloc (.map #[] 0) = W3 := ⟨_, rfl⟩
    rw [hW3]
    have HM : Hid (SetX W3 W2.heap.size 0 (fun _ => false)) := by subst hW3; exact zH (SetX.new W2)
    have hb3 : Below W2.heap.size W2 W3 := by subst hW3; exact bAlloc (bSelf _) _
    refine (HCP.out _ al cl (HRD.out.to hb3)).mono ?_
    rintro e w4 ⟨rfl, hb⟩
    replace HM := zH (HM.out.to hb)
    have hb4 := bThen hb3 hb
    have HB4 := zH hb4
    clear hW3 hb3 hb hb4 HCP
    obtain ⟨bm, hbm⟩ : ∃ b, W2.heap.size = b := ⟨_, rfl⟩
    rw [hbm] at HM ⊢
    have HBM := zH hbm
    have h4s : bm < w4.heap.size := HM.out.lt
    have HBB : Hid (Below bm W2 w4) := zH (by rw [← hbm]; exact HB4.out)
    clear hbm
    go_wp2_with fail
    go_loopw [11, 30] (fun _ s30 wr => ∃ k : Nat, s30 = .int .i64 k ∧ k ≤ N ∧ Hid (SetX wr bm (2 * k) (fillS k)) ∧ Hid (Below bm W2 wr) ∧ Hid (bm < wr.heap.size)) (fun _ s30 _ => N - (intOf s30).toNat)
    case atStart => exact ⟨0, rfl, Nat.zero_le _, zH (HM.out.ext (fun s => by unfold fillS; by_cases h1 : 0 ≤ s.1 <;> by_cases h2 : s.1 < 0 <;> simp [h1, h2] <;> omega)), HBB, zH h4s⟩
    case round =>
      obtain ⟨k, rfl, hk, HMr, HBr, HSr⟩ := hrel
      obtain ⟨wo, hwo⟩ : ∃ wo, wo = wr := ⟨_, rfl⟩
      subst hwo
      by_cases hlt : k < N
      · have hk2 : (k : Int) ≤ C := by omega
        have hsw1 : StW ((k : Int), false) := ⟨by dsimp only; omega, by dsimp only; omega⟩
        have hsw2 : StW ((k : Int), true) := ⟨by dsimp only; omega, by dsimp only; omega⟩
        obtain ⟨u1, hrun1, hs1, hg1⟩ := HMr.out.put hsw1 (by unfold maxLen; have := HN.out; omega)
        obtain ⟨u2, hrun2, hs2, hg2⟩ := hs1.put hsw2 (by unfold maxLen; have := HN.out; omega)
        have HS2 := zH hs2
        have HG1 := zH hg1
        have HG2 := zH hg2
        clear hs1 hs2 hg1 hg2 hsw1 hsw2
        dsimp only [stV] at hrun1 hrun2
        go_wp2_with fail
        go_roundw
        case rel =>
          refine ⟨k + 1, by go_num, by omega, zH ((HS2.out.mono (by omega)).ext (fillS_step k)), zH ?_, zH ?_⟩
          · exact (HBr.out.grown HG1.out (by have := HSr.out; omega) (fun j e => by cases e; exact Nat.le_refl _)).grown HG2.out (by have := HSr.out; have := HG1.out.size; omega) (fun j e => by cases e; exact Nat.le_refl _)
          · have := HSr.out; have := HG1.out.size; have := HG2.out.size; omega
        case measure => simp [intOf]; omega
      · obtain rfl : k = N := by omega
        clear h4s HM HBB hlt hk
        go_wp2_with fail
        have HOI : Hid (OutS p (lo, hi) lim true (fillS k)) := zH (OutS.start HCN.out)
        go_loopw [12, 13] (fun s12 _ wr => ∃ (ch : Bool) (S : OSt → Bool), s12 = .bool ch ∧ Hid (OutS p (lo, hi) lim ch S) ∧ Hid (SetX wr bm (2 * k) S) ∧ Hid (Below bm W2 wr) ∧ Hid (bm < wr.heap.size)) (fun s12 _ wr => 2 * mapSz wr bm + chN s12)
        case atStart => exact ⟨true, _, rfl, HOI, HMr, HBr, HSr⟩
        case round =>
          clear HMr HBr HSr
          obtain ⟨ch, S, rfl, HOS, HMr, HBr, HSr⟩ := hrel
          clear HOI
          cases ch with
          | true =>
            obtain ⟨W5, cnt, hrun, hrw, hg, hsz⟩ := HMr.out.range
            have HRW := zH hrw
            have HB5 : Hid (Below bm W2 W5) := zH (HBr.out.grown hg (by have := HSr.out; omega) (fun j e => by cases e))
            have HS5 : Hid (bm < W5.heap.size) := zH (by have := HSr.out; omega)
            have HIN := zH (HOS.out.sweep (mapSz W5 bm))
            have HMZ : Hid (mapSz W5 bm = mapSz wr bm) := zH (mapSz_same (hg.block bm HSr.out (by simp)))
            clear hrw hg hsz
            obtain ⟨rb, hrb⟩ : ∃ r, wr.heap.size = r := ⟨_, rfl⟩
            rw [hrb] at HRW hrun
            go_wp2_with fail
            have HRB := zH hrb
            obtain ⟨wq, hwq⟩ : ∃ wq, wq = wr := ⟨_, rfl⟩
            subst hwq
            go_loopw [12, 13] (fun s12 _ wi => ∃ (ch : Bool) (S1 L : OSt → Bool) (cnt : Nat), s12 = .bool ch ∧ Hid (RngW wi bm rb (2 * k) S1 L cnt) ∧ Hid (InS p (lo, hi) lim S (mapSz wq bm) ch S1 L (mapSz wi bm)) ∧ Hid (Below bm W2 wi) ∧ Hid (bm < wi.heap.size)) (fun _ _ wi => wi.rangeLeft bm rb)
            case atStart => exact ⟨false, S, S, cnt, rfl, HRW, zH (by rw [← HMZ.out]; exact HIN.out), HB5, HS5⟩
            case round =>
              clear HRW HIN HB5 HS5 hrun hrb HMZ
              obtain ⟨ch, S1, L, cnt1, rfl, HRW, HIN, HB5, HS5⟩ := hrel
              obtain ⟨wi, hwi⟩ : ∃ wi, wi = wr := ⟨_, rfl⟩
              subst hwi
              rcases HRW.out.next 0 with ⟨hL, hrun⟩ | ⟨⟨s1, s2⟩, u1, cnt2, hsw, hLs, hSs, hrun, hrg, hlt, hg, hsz, hen⟩
              · have HOD := zH (HIN.out.done HP.out hL)
                clear hL
                go_wp2_with fail
                go_roundw
                case rel => exact ⟨ch, S1, rfl, HOD, zH HRW.out.owns, HB5, HS5⟩
                case measure =>
                  cases ch with
                  | false => have := (HIN.out.no rfl).1; simp [chN]; omega
                  | true => have := HIN.out.yes rfl; simp [chN]; omega
              · have HRG := zH hrg
                have HLT := zH hlt
                have HSW := zH hsw
                have HSS := zH hSs
                have HB6 : Hid (Below bm W2 u1) := zH (HB5.out.grown hg (by have := HS5.out; omega) (fun j e => by cases e; have := HRB.out; have := HSr.out; omega))
                have HZ6 : Hid (mapSz u1 bm = mapSz wi bm) := zH (mapSz_same (hg.block bm HS5.out (by have := HRW.out.ne; intro e; cases e; exact this rfl)))
                have HS6 : Hid (bm < u1.heap.size) := zH (by have := HS5.out; omega)
                have K7u := zH (K7.out.below HB6.out (by have := HSZ.out; have := HBM.out; omega))
                have K4u := zH (K4.out.below HB6.out (by have := K4.out.1; have := HBM.out; omega))
                have k7 : ∀ (o1 : Obj) (o : Nat), (u1.alloc o1).cell? ⟨w1.heap.size, o, none⟩ = (plL p a cap al cl)[o]? := fun o1 => (K7u.out.alloc o1).2.1
                have k4 : ∀ (o1 : Obj) (o : Nat), (u1.alloc o1).cell? ⟨w.heap.size + 1, o, none⟩ = #[Value.int .i64 lo, .int .i64 hi][o]? := fun o1 => (K4u.out.alloc o1).2.1
                clear hrg hlt hsw hSs hg hsz hLs
                dsimp only [stV] at hrun hen
                go_wp2_with fail
                obtain ⟨W6, hW6⟩ : ∃ W6, u1.alloc (.cells #[.int .i64 s1, .bool s2] 46) = W6 := ⟨_, rfl⟩
                rw [hW6]
                have hb6 : Below u1.heap.size u1 W6 := by subst hW6; exact bAlloc (bSelf _) _
                have K13 : Hid (Blk W6 u1.heap.size #[.int .i64 s1, .bool s2]) := by subst hW6; exact zH (Blk.new _ _ _)
                clear hW6 k7 k4 hrun hen K7u K4u
                have hrd6 : Reads W6 al (p.pts.length * 2) (fracs p.pts) := HRD.out.to ((by rw [HBM.out]; exact HB6.out.trans (hb6.mono (by have := HS6.out; omega)) : Below W2.heap.size W2 W6))
                obtain ⟨j, hj⟩ : ∃ j, jdg p (lo, hi) lim (s1, s2) S1 = j := ⟨_, rfl⟩
                have HJ' := HJ.out W6 (s1, s2) S1 al cl bm (2 * k) (mem_allS.1 (HIN.out.all _ HSS.out)) hrd6 (HRG.out.to hb6).owns.set
                rw [hj] at HJ'
                refine HJ'.mono ?_
                rintro e u3 ⟨rfl, hb⟩
                have hb63 := bThen hb6 hb
                replace K13 := zH (K13.out.to hb)
                replace HRG := zH (HRG.out.to hb63)
                replace HB6 : Hid (Below bm W2 u3) := zH (HB6.out.trans (hb63.mono (by have := HS6.out; omega)))
                replace HZ6 : Hid (mapSz u3 bm = mapSz wi bm) := zH ((mapSz_same (hb63.block bm HS6.out)).trans HZ6.out)
                replace HS6 : Hid (bm < u3.heap.size) := zH (by have := HS6.out; have := hb63.size; omega)
                clear hb hb6 hb63 hrd6 HJ'
                by_cases hj0 : j = 0
                · have HJ0 : Hid (jdg p (lo, hi) lim (s1, s2) S1 = 0) := zH (by rw [hj, hj0])
                  subst hj0
                  clear hj
                  go_wp2_with fail
                  go_roundw
                  case rel => exact ⟨ch, S1, _, cnt2, rfl, HRG, zH (by rw [HZ6.out]; exact HIN.out.keep HJ0.out), HB6, HS6⟩
                  case measure => rw [HRG.out.left_eq, HRW.out.left_eq]; exact HLT.out
                · have HJ0 : Hid (jdg p (lo, hi) lim (s1, s2) S1 ≠ 0) := zH (by rw [hj]; exact hj0)
                  have hj0' : (j != 0) = true := by simpa using hj0
                  clear hj hj0
                  obtain ⟨u4, cnt3, hrund, hrg, hle, hg, hsz, hdec⟩ := HRG.out.drop HSW.out 0
                  have HRD3 := zH (hrg.ext (M := fun x => L x && !(x == (s1, s2))) (fun _ => rfl) (fun x => by cases L x <;> cases (x == (s1, s2)) <;> rfl))
                  have HDC := zH (hdec HSS.out)
                  have HG4 := zH hg
                  have HLE := zH hle
                  have HSZ4 := zH hsz
                  clear hrg hle hg hsz hdec
                  dsimp only [stV] at hrund
                  obtain ⟨-, k13, -⟩ := K13.out
                  go_wp2_with fail
                  go_roundw
                  case rel =>
                    refine ⟨true, _, _, cnt3, rfl, HRD3, zH (HIN.out.drop HJ0.out (by have := HDC.out; have := HZ6.out; omega)), zH ?_, zH (by have := HS6.out; have := HSZ4.out; omega)⟩
                    exact HB6.out.grown HG4.out (by have := HS6.out; omega) (fun j e => by cases e; exact Nat.le_refl _)
                  case measure => rw [HRD3.out.left_eq, HRW.out.left_eq]; have := HLE.out; have := HLT.out; omega
          | false =>
            have HMEM := zH (saf_any (HOS.out.clo rfl) HOS.out.all HOS.out.saf)
            have HALL := zH HOS.out.all
            clear HOS
            obtain ⟨W5, cnt, hrun, hrw, hg, hsz⟩ := HMr.out.range
            obtain ⟨rb, hrb⟩ : ∃ r, wr.heap.size = r := ⟨_, rfl⟩
            rw [hrb] at hrw hrun
            have HRW := zH hrw
            have HB5 : Hid (Below bm W2 W5) := zH (HBr.out.grown hg (by have := HSr.out; omega) (fun j e => by cases e))
            have HRB : Hid (bm < rb) := zH (by have := HSr.out; omega)
            have HZ5 : Hid (rb < W5.heap.size) := zH (by omega)
            clear hrw hg hsz hrb
            have HCL : Hid (ColS S rb W5 (.slice none 0 0) [] S) := zH ⟨⟨rfl, .inl ⟨rfl, rfl⟩⟩, List.nodup_nil, fun x => ⟨(fun h => by cases h), (fun h => by have h2 := h.2; rw [h.1] at h2; cases h2)⟩⟩
            go_wp2_with fail
            go_loopw [14, 15] (fun s14 _ wi => ∃ (L : OSt → Bool) (cnt : Nat) (out : List OSt), Hid (RngW wi bm rb (2 * k) S L cnt) ∧ Hid (ColS S rb wi s14 out L) ∧ Hid (Below bm W2 wi) ∧ Hid (rb < wi.heap.size)) (fun _ _ wi => wi.rangeLeft bm rb)
            case atStart => exact ⟨S, cnt, [], HRW, HCL, HB5, HZ5⟩
            case round =>
              clear HRW HB5 HZ5 hrun HCL HMr HBr HSr
              obtain ⟨L, cnt1, out, HRW, HCL, HB5, HZ5⟩ := hrel
              obtain ⟨wi, hwi⟩ : ∃ wi, wi = wr := ⟨_, rfl⟩
              have hlen := HCL.out.len HP.out HALL.out
              obtain ⟨va, vc, rfl⟩ := ownsRow_sl HCL.out.own
              rcases HRW.out.next 0 with ⟨hL, hrun⟩ | ⟨⟨s1, s2⟩, u1, cnt2, hsw, hLs, hSs, hrun, hrg, hlt, hg, hsz, hen⟩
              · have HML : Hid (∀ x, x ∈ out ↔ x ∈ safS p (lo, hi) lim) := zH (fun x => by
                  rw [HCL.out.mem, ← HMEM.out x]
                  exact ⟨fun h => h.1, fun h => ⟨h, hL x (allS_W HP.out (HALL.out x h))⟩⟩)
                clear hL
                have HSO := zH (oSort_any out (.slice va out.length vc) (rb + 1) wr HCL.out.own (by omega) HCL.out.nod)
                go_wp2_with fail
                refine HSO.out.mono ?_
                rintro e w7 ⟨rfl, l', hl1, hl2, hl3, hl4, hl5⟩
                have hvl : l' = vl := by
                  rw [HV.out]
                  exact srt_ext hl1 ((safL_spec _ _ (Nat.le_refl _)).2.2.2 (srt_allS p)) (fun x => by rw [hl2, HML.out])
                subst hvl
                have HFIN : Hid (∃ a' c', Value.slice va out.length vc = .slice a' l'.length c' ∧ l'.length ≤ c' ∧ Reads w7 a' (l'.length * 2) (osts l') ∧ Below w.heap.size w w7 ∧ ∀ q, a' = some q → w.heap.size ≤ q.block) := zH (by
                  rw [← hl3] at hl4 ⊢
                  obtain ⟨a', cap', e, hcp, hrd, hfr⟩ := Reads.of_row (f := osts l') hl4 (fun i hi => scells_get l' i hi)
                  refine ⟨a', cap', e, hcp, hrd, ?_, fun q hq => ?_⟩
                  · refine HB.out.trans ((HB5.out.trans ?_).mono (by have := HBM.out; have := HB.out.size; omega))
                    exact ((Below.refl _ _).grown hl5 (by have := HRB.out; have := HZ5.out; omega) (fun j e2 => by have := (HCL.out.own.lt _ e2).1; have := HRB.out; omega))
                  · have := hfr q hq
                    have := HRB.out
                    have := HBM.out
                    have := HB.out.size
                    omega)
                clear hl1 hl2 hl3 hl4 hl5
                go_wp2_with fail
                refine bodyPost_ret (results_tmp2 rfl _ _ _) rfl ?_
                obtain ⟨a', c', e, h1, h2, h3, h4⟩ := HFIN.out
                exact ⟨a', c', by rw [e]; rfl, h1, h2, h3, h4⟩
              · have HRG := zH hrg
                have HLT := zH hlt
                have HB6 : Hid (Below bm W2 u1) := zH (HB5.out.grown hg (by have := HRB.out; have := HZ5.out; omega) (fun j e => by cases e; have := HRB.out; omega))
                have HZ6 : Hid (rb < u1.heap.size) := zH (by have := HZ5.out; omega)
                have HCL6 : Hid (ColS S rb u1 (.slice va out.length vc) out L) := zH (HCL.out.grown hg)
                have HAD := zH (fun v' w' h => HCL.out.add (v' := v') (w' := w') hSs hLs h)
                clear hrg hlt hsw hSs hg hsz hLs
                dsimp only [stV] at hrun hen
                have HROW := zH ((HCL6.out.own.alloc (.cells #[.int .i64 s1, .bool s2] 46)).alloc (.cells #[.int .i64 s1, .bool s2] 46))
                have HNN := zH (Blk.new (u1.alloc (.cells #[.int .i64 s1, .bool s2] 46)) #[.int .i64 s1, .bool s2] 46).news
                have hz6 := HZ6.out
                go_wp2_with (at_builtin; go_loud (refine wpList_app (rb + 1) rtSt rfl (.tmp 62) (.tmp 64) rfl _ out.length _ rfl HROW.out ⟨u1.heap.size + 1, 0, none⟩ 1 1 [.int .i64 s1, .bool s2] rfl rfl (by simpa using HNN.out) (by simp [Value.oneCell']) (by unfold maxLen; omega) (by omega) (by simp; omega) ?_; intro v' w7 hown' hgrow _ hwhere; obtain ⟨va', vc', rfl⟩ := ownsRow_sl hown'; have HO := zH hown'; have HG7 := zH hgrow; clear hown' hgrow hwhere))
                have HB7 : Hid (Below (rb + 1) u1 w7) := zH ((((Below.refl _ _).alloc (show rb + 1 ≤ u1.heap.size by omega) _).alloc (by simp; omega) _).grown HG7.out (by simp; omega) (fun k e => (HCL6.out.own.lt k e).1))
                have HRG7 : Hid (RngW w7 bm rb (2 * k) S (fun x => L x && !(x == (s1, s2))) cnt2) := by
                  have h1 := (HRG.out.to (bAlloc (bSelf _) (.cells #[.int .i64 s1, .bool s2] 46)))
                  have h2 := (h1.to (bAlloc (bSelf _) (.cells #[.int .i64 s1, .bool s2] 46)))
                  refine zH (h2.grown HG7.out ?_ ?_)
                  · intro e; have := (HCL6.out.own.lt _ e.symm).1; have := HRB.out; omega
                  · intro e; have := (HCL6.out.own.lt _ e.symm).1; omega
                go_roundw
                case rel => exact ⟨_, cnt2, out ++ [(s1, s2)], HRG7, zH (HAD.out _ _ HO.out), zH (HB6.out.trans (HB7.out.mono (by have := HRB.out; omega))), zH (by have := HB7.out.size; omega)⟩
                case measure => rw [HRG7.out.left_eq, HRW.out.left_eq]; exact HLT.out
  · have h0' : (ve != 0) = true := by simpa using h0
    have hS := HS.out
    rw [if_neg h0] at hS
    subst hS
    clear HS HOK
    go_enter Tryz.func54, Tryz.ntmps54
    go_wp2_with fail
    obtain ⟨W, hW⟩ : ∃ W, (w.alloc (.cells (plC p a cap) 44)).alloc (.cells #[.int .i64 lo, .int .i64 hi] 25) = W := ⟨_, rfl⟩
    rw [hW]
    have HB : Hid (Below w.heap.size w W) := by subst hW; exact zH (bAlloc (bAlloc (bSelf w) _) _)
    clear hW
    refine (HO.out _ HB.out).mono ?_
    rintro e w1 ⟨al, cl, rfl, hcl, hrd, hb, hfr⟩
    replace HB := zH (bThen HB.out hb)
    clear hb hrd hfr HO
    go_wp2_with fail
    refine bodyPost_ret (results_tmp2 rfl _ _ _) rfl ?_
    exact ⟨none, 0, rfl, Nat.zero_le _, .inl rfl, bAlloc HB.out _, fun q hq => by cases hq⟩
end
end Go.Proofs.YtjfedpblkejmkaaGreat
