/-
  Texts of this claim, in their build order: OM8.
-/
import Derived.Test.YtbpcapcgbnbknaaGreatOne35
import Derived.Test.YtbpcapcgbnbknaaGreatOne0

namespace Go.Proofs.YtbpcapcgbnbknaaGreat
section
open Go.RowKit
attribute [local go_sem] Oper.semAt_some

/-- What witness hands over. -/
def WtPost (o : Option (List Int)) (w : World) (e : Ending) (w' : World) : Prop :=
  ∃ q c, e = .returned (.tuple #[.slice q (o.getD []).length c, .bool o.isSome]) ∧ (o.getD []).length ≤ c ∧ Reads w' q (o.getD []).length (ints (o.getD [])) ∧ Below w.heap.size w w' ∧ (o = none → q = none ∧ c = 0)

/-- The loop of witness. -/
structure WtI (p : Plt) (lim : Int) (xs : List TkI) (B : Nat) (W3 : World) (pre : List TkI) (M1 : Nat → Prop) (W : World) : Prop where
  so : ∀ rest, xs = pre ++ rest → witA p lim xs = witA p lim rest
  be : Below W3.heap.size W3 W
  m3 : M1 B
  m4 : M1 (B + 1)
  fit : ∀ k, M1 k → k < W.heap.size
theorem WtI.agree {p : Plt} {lim : Int} {xs : List TkI} {B : Nat} {W3 : World} {pre : List TkI} {M1 : Nat → Prop} {W W' : World} (h : WtI p lim xs B W3 pre M1 W) (hag : Agree W3.heap.size M1 W W') : WtI p lim xs B W3 pre M1 W' :=
  ⟨h.so, h.be.trans hag.below, h.m3, h.m4, fun k hk => Nat.lt_of_lt_of_le (h.fit k hk) hag.size⟩
def WtX (p : Plt) (lim : Int) (xs : List TkI) (B : Nat) (w : World) (W : World) : Prop :=
  ∃ o q c, witA p lim xs = some o ∧ Blk W B #[.slice q o.length c] ∧ Blk W (B + 1) #[.bool true] ∧ o.length ≤ c ∧ Reads W q o.length (ints o) ∧ Below w.heap.size w W
theorem WtX.putObj {p : Plt} {lim : Int} {xs : List TkI} {B : Nat} {w W : World} (h : WtX p lim xs B w W) {l : Nat} (o : Obj) (h1 : B + 1 < l) (h2 : w.heap.size ≤ l) (hw : w.heap.size ≤ W.heap.size) (hl : ∃ o0, W.heap[l]? = some o0 ∧ o0.isCells = false) : WtX p lim xs B w (W.putObj l o) := by
  obtain ⟨o', q, c, e, k1, k2, hc, hr, hb⟩ := h
  exact ⟨o', q, c, e, blk_grown k1 (grownBy_putObj' W l o) (fun e => by injection e with e; omega), blk_grown k2 (grownBy_putObj' W l o) (fun e => by injection e with e; omega), hc, hr.putObj o hl, hb.grown (grownBy_putObj' W l o) hw (fun k e => by cases e; exact h2)⟩
theorem TkEnc.putObj {x : TkI} {vs : Array Value} {M : Nat → Prop} {W : World} (h : TkEnc x vs M W) {l : Nat} (o : Obj) (hl : ∃ o0, W.heap[l]? = some o0 ∧ o0.isCells = false) : TkEnc x vs M (W.putObj l o) := by
  obtain ⟨a, c, v, ds, e, hc, h1, h2⟩ := h
  exact ⟨a, c, v, ds, e, hc, h1.putObj o hl, h2.putObj o hl⟩

theorem WtX.fin {p : Plt} {lim : Int} {xs : List TkI} {B : Nat} {w W1 Wa : World} {o : List Int} {q : Option Addr} {c : Nat} {v3 v4 : Value} {M1 : Nat → Prop} (hw : witA p lim xs = some o) (k3 : Blk W1 B #[v3]) (k4 : Blk W1 (B + 1) #[v4]) (hc : o.length ≤ c) (hr : Reads W1 q o.length (ints o))
    (hq : ∀ ad, q = some ad → ¬ M1 ad.block) (hb : Below w.heap.size w W1) (hB : w.heap.size ≤ B) (hM : M1 B) (hM' : M1 (B + 1)) (hU : Upd M1 M1 Wa W1) :
    (WtX p lim xs B w ((W1.setCell ⟨B, 0, none⟩ (.slice q o.length c)).setCell ⟨B + 1, 0, none⟩ (.bool true)) ∧ w.heap.size ≤ ((W1.setCell ⟨B, 0, none⟩ (.slice q o.length c)).setCell ⟨B + 1, 0, none⟩ (.bool true)).heap.size) ∧ Upd M1 M1 Wa ((W1.setCell ⟨B, 0, none⟩ (.slice q o.length c)).setCell ⟨B + 1, 0, none⟩ (.bool true)) := by
  have h3 : Blk ((W1.setCell ⟨B, 0, none⟩ (.slice q o.length c)).setCell ⟨B + 1, 0, none⟩ (.bool true)) B #[.slice q o.length c] := (k3.set 0 _).other (p := ⟨B + 1, 0, none⟩) (by simp) _
  have h4 : Blk ((W1.setCell ⟨B, 0, none⟩ (.slice q o.length c)).setCell ⟨B + 1, 0, none⟩ (.bool true)) (B + 1) #[.bool true] := (k4.other (p := ⟨B, 0, none⟩) (by simp) _).set 0 _
  have hbb : Below w.heap.size w ((W1.setCell ⟨B, 0, none⟩ (.slice q o.length c)).setCell ⟨B + 1, 0, none⟩ (.bool true)) := (hb.setCell (p := ⟨B, 0, none⟩) hB _).setCell (p := ⟨B + 1, 0, none⟩) (by show w.heap.size ≤ B + 1; omega) _
  have hrr := ((hr.other ⟨B, 0, none⟩ (.slice q o.length c) (fun b off e h => hq _ e (by dsimp only at h ⊢; rw [h]; exact hM))).other ⟨B + 1, 0, none⟩ (.bool true) (fun b off e h => hq _ e (by dsimp only at h ⊢; rw [h]; exact hM')))
  have hU1 := hU.trans (Upd.setCell hU.fit ⟨B, 0, none⟩ (.slice q o.length c) hM)
  exact ⟨⟨⟨o, q, c, hw, h3, h4, hc, hrr, hbb⟩, hbb.size⟩, hU1.trans (Upd.setCell hU1.fit ⟨B + 1, 0, none⟩ (.bool true) hM')⟩
theorem witA_cons {p : Plt} {lim : Int} {now : List (OSt × List Int)} {em : Option (List Int)} {l : List TkI} : witA p lim ((now, em) :: l) = match now.find? (fun a => blwQ p lim a.1), em with
    | some a, none => some a.2
    | some a, some e => if cmpL a.2 e < 0 then some a.2 else some e
    | none, some e => some e
    | none, none => witA p lim l := rfl
/-- Found states are states of the plant, and their demands are few. -/
def TOk (p : Plt) (n : Nat) (T : Tks) : Prop := (∀ y ∈ T.aft, StOk p y.1 ∧ y.2.length ≤ n + 1) ∧ ∀ e, T.emp = some e → e.length ≤ n + 1
theorem tkD_ok {p : Plt} {n : Nat} {T : Tks} {a : OSt × List Int} {d : Int} (h : TOk p n T) (ha : a.2.length ≤ n) : TOk p n (tkD p a T d) := by
  have hl : (a.2 ++ [d]).length ≤ n + 1 := by rw [List.length_append]; simp; omega
  unfold tkD
  cases ht : nxtA p a.1 d with
  | none =>
    refine ⟨h.1, fun e he => ?_⟩
    dsimp only at he
    cases hem : T.emp with
    | none => rw [hem] at he; cases he; exact hl
    | some e' => rw [hem] at he; cases he; exact h.2 _ hem
  | some t =>
    dsimp only
    split
    · exact h
    · refine ⟨fun y hy => ?_, h.2⟩
      rcases List.mem_append.1 hy with hy | hy
      · exact h.1 y hy
      · simp only [List.mem_cons, List.not_mem_nil, or_false] at hy
        subst hy
        exact ⟨nxtA_ok ht, hl⟩
theorem foldD_ok {p : Plt} {n : Nat} {a : OSt × List Int} (ha : a.2.length ≤ n) : ∀ (l : List Int) (T : Tks), TOk p n T → TOk p n (l.foldl (tkD p a) T)
  | [], _, h => h
  | _ :: l, _, h => foldD_ok ha l _ (tkD_ok h ha)
theorem foldR_ok {p : Plt} {n : Nat} {r : Int × Int} : ∀ (now : List (OSt × List Int)) (T : Tks), (∀ x ∈ now, x.2.length ≤ n) → TOk p n T → TOk p n (now.foldl (tkR p r) T)
  | [], _, _, h => h
  | a :: now, _, ha, h => foldR_ok now _ (fun x hx => ha x (List.mem_cons_of_mem _ hx)) (foldD_ok (ha a (List.mem_cons_self ..)) _ _ h)
structure LOk (p : Plt) (n : Nat) (x : TkI) : Prop where
  st : ∀ y ∈ x.1, StOk p y.1
  dl : ∀ y ∈ x.1, y.2.length ≤ n
  nd : (sts x.1).Nodup
  em : ∀ e, x.2 = some e → e.length ≤ n
theorem tks_ok {p : Plt} : ∀ (rs : List (Int × Int)) (now : List (OSt × List Int)) (n : Nat), (∀ y ∈ now, StOk p y.1) → (∀ y ∈ now, y.2.length ≤ n) → (sts now).Nodup → ∀ x ∈ tks p rs now, LOk p (n + rs.length) x
  | [], now, n, h1, h2, h3, x, hx => by
    unfold tks at hx
    simp only [List.mem_cons, List.not_mem_nil, or_false] at hx
    subst hx
    exact ⟨h1, h2, h3, fun e he => by cases he⟩
  | r :: rs, now, n, h1, h2, h3, x, hx => by
    rw [tks_eq] at hx
    have hT := foldR_ok (p := p) (r := r) now ⟨[], none⟩ h2 ⟨fun y hy => by simp at hy, fun e he => by cases he⟩
    have hN : (sts (tkL p r now).aft).Nodup := (foldR_all (p := p) (r := r) now ⟨[], none⟩).2.2 (by simp [sts])
    have hlen : (r :: rs).length = rs.length + 1 := rfl
    rcases List.mem_cons.1 hx with rfl | hx
    · exact ⟨h1, fun y hy => by have := h2 y hy; omega, h3, fun e he => by cases he⟩
    · cases hem : (tkL p r now).emp with
      | some e0 =>
        rw [tksT_some hem] at hx
        simp only [List.mem_cons, List.not_mem_nil, or_false] at hx
        subst hx
        exact ⟨fun y hy => (hT.1 y hy).1, fun y hy => by have := (hT.1 y hy).2; omega, hN, fun e he => by cases he; have := hT.2 _ hem; omega⟩
      | none =>
        rw [tksT_none hem] at hx
        have := tks_ok rs (tkL p r now).aft (n + 1) (fun y hy => (hT.1 y hy).1) (fun y hy => (hT.1 y hy).2) hN x hx
        rw [hlen, show n + (rs.length + 1) = n + 1 + rs.length by omega]
        exact this

set_option maxHeartbeats 12800000 in
set_option maxRecDepth 100000 in
theorem witness_any (p : Plt) (s : OSt) (cls : List (Int × Int)) (lim : Int) (a al ac : Option Addr) (cap cl cc : Nat) (w : World) (hp : PltOk p) (hs : StOk p s) (hcl : cls.length ≤ 20 ∧ ∀ k, k < cls.length → 0 ≤ (fg cls k).1 ∧ (fg cls k).2 ≤ 50 ∧ (fg cls k).1 ≤ (fg cls k).2) (hlim : Nin lim)
    (hrl : Reads w al (p.pts.length * 2) (fracs p.pts)) (hrc : Reads w ac (cls.length * 2) (fracs cls)) :
    Calls Tryz.prog 88 #[.agg (plL p a cap al cl), .agg #[.int .i64 s.1, .bool s.2], .slice ac cls.length cc, .int .i64 lim] w fun e w' => WtPost (witA p lim (tks p cls [(s, [])])) w e w' := by
  have HI := zH (fun W (hb : Below w.heap.size w W) now ds na nc px py hst hlen hP hL hn => idxA_any p lim now ds a al na cap cl nc px py W hp hst hlim hlen hP hL (hrl.to hb) hn)
  have HT := zH (fun bs bc bp W hF => ticks1_in 4 p s cls a al ac cap cl cc bs bc bp W hp hs hcl hF)
  have HRL := zH hrl
  have HRC := zH hrc
  have HTK := zH (fun W => ticks_any p s a al ac cap cl cls.length cc W)
  obtain ⟨xs, hxs⟩ : ∃ xs, tks p cls [(s, [])] = xs := ⟨_, rfl⟩
  rw [hxs] at HT ⊢
  have HXS := zH hxs
  have HCN := zH hcl.1
  have HP := zH hp
  have HS := zH hs
  clear hp hs hcl hlim hrl hrc hxs
  obtain ⟨s1, sr⟩ := s
  dsimp only at HTK ⊢
  refine (callsIn_wide (n := 5)).1 ?_
  refine callsIn_of_wp_marks Tryz.func88 rfl trivial ?_ rfl
  simp only [Tryz.ntmps88, List.size_toArray, List.length_cons, List.length_nil, Nat.reduceAdd, Nat.reduceSub, Array.replicate_succ, Array.replicate_zero, List.push_toArray, List.append_toArray, List.nil_append, List.cons_append]
  gi_wp2_with fail
  obtain ⟨W1, hW1⟩ : ∃ W1, (((((w.alloc (.cells (plL p a cap al cl) 145)).alloc (.cells #[.int .i64 s1, .bool sr] 53)).alloc (.cells #[.int .i64 lim] 3)).alloc (.cells #[.slice none 0 0] 28)).alloc (.cells #[.bool false] 4)) = W1 := ⟨_, rfl⟩
  rw [hW1]
  have hsz1 : W1.heap.size = w.heap.size + 1 + 1 + 1 + 1 + 1 := by subst hW1; simp
  have KP : Hid (Blk W1 w.heap.size (plL p a cap al cl)) := by subst hW1; exact zH (((((Blk.new _ _ _).alloc _).alloc _).alloc _).alloc _)
  have KL : Hid (Blk W1 (w.heap.size + 1 + 1) #[.int .i64 lim]) := by subst hW1; exact zH (((Blk.newAt _ _ _ (by simp)).alloc _).alloc _)
  have K3 : Hid (Blk W1 (w.heap.size + 1 + 1 + 1) #[.slice none 0 0]) := by subst hW1; exact zH ((Blk.newAt _ _ _ (by simp)).alloc _)
  have K4 : Hid (Blk W1 (w.heap.size + 1 + 1 + 1 + 1) #[.bool false]) := by subst hW1; exact zH (Blk.newAt _ _ _ (by simp))
  have HB1 : Hid (Below w.heap.size w W1) := by subst hW1; exact zH (bAlloc (bAlloc (bAlloc (bAlloc (bAlloc (bSelf w) _) _) _) _) _)
  clear hW1
  refine ⟨trivial, (callsIn_wide.2 (HTK.out _)).mono ?_⟩
  rintro e w' ⟨rfl, rfl⟩
  obtain ⟨W3, hW3⟩ : ∃ W3, ((W1.alloc (.cells (plL p a cap al cl) 145)).alloc (.cells #[.int .i64 s1, .bool sr] 53)).alloc (.cells #[.slice ac cls.length cc] 54) = W3 := ⟨_, rfl⟩
  rw [hW3]
  have hsz3 : W3.heap.size = w.heap.size + 8 := by subst hW3; simp [hsz1]
  have hsq : W1.heap.size = w.heap.size + 5 := hsz1
  have hbw : Below W1.heap.size W1 W3 := by subst hW3; exact bAlloc (bAlloc (bAlloc (bSelf W1) _) _) _
  have HB3 : Hid (Below w.heap.size w W3) := zH (bThen HB1.out hbw)
  have HF : Hid (TkF p (s1, sr) cls a al ac cap cl cc (W1.heap.size + 1) (W1.heap.size + 1 + 1) W1.heap.size W3) := by
    subst hW3
    exact zH ⟨(Blk.newAt _ _ _ (by simp)).alloc _, Blk.newAt _ _ _ (by simp), ((Blk.new _ _ _).alloc _).alloc _, HRL.out.to HB3.out, HRC.out.to HB3.out⟩
  replace KP := zH (KP.out.to hbw)
  replace KL := zH (KL.out.to hbw)
  replace K3 := zH (K3.out.to hbw)
  replace K4 := zH (K4.out.to hbw)
  have HSQ := HT.out _ _ _ W3 HF.out
  have HRD : Hid (∀ k, TkR p cls al ac (W1.heap.size + 1) (W1.heap.size + 1 + 1) W1.heap.size k → k < W3.heap.size) := zH (fun k hk => HF.out.lt hk)
  have HRM : Hid (∀ k, k = w.heap.size + 1 + 1 + 1 ∨ k = w.heap.size + 1 + 1 + 1 + 1 → ¬ TkR p cls al ac (W1.heap.size + 1) (W1.heap.size + 1 + 1) W1.heap.size k) := zH (fun k hk h => by
    rcases h with h | h | h | ⟨h0, off, e⟩ | ⟨h0, off, e⟩
    · omega
    · omega
    · omega
    · obtain ⟨b', off', e', h, -⟩ := HRC.out.at (k := 0) (by omega)
      rw [e] at e'; cases e'; omega
    · obtain ⟨b', off', e', h, -⟩ := HRL.out.at (k := 0) (by omega)
      rw [e] at e'; cases e'; omega)
  have HOK : Hid (∀ x ∈ xs, LOk p (0 + cls.length) x) := zH (by
    rw [← HXS.out]
    exact tks_ok cls [((s1, sr), [])] 0 (fun y hy => by simp only [List.mem_cons, List.not_mem_nil, or_false] at hy; subst hy; exact HS.out) (fun y hy => by simp only [List.mem_cons, List.not_mem_nil, or_false] at hy; subst hy; exact Nat.le_refl _) (by simp [sts]))
  have HSQ' := zH HSQ
  have HZ3 := zH hsz3
  have HZ1 := zH hsq
  clear hW3 hbw hsz1 HSQ hsz3 hsq
  gi_wp2_with fail
  have hsz3 := HZ3.out
  have hsq := HZ1.out
  have HSQ := HSQ'.out
  refine wpIn_rangeFunc_V (xs := xs) rfl (by intro args w; go_simp) HSQ (bSelf _) (fun x vs M1 W h => h.size) (fun x vs M1 M0 W h hm => h.less hm) HRD.out
    (WtI p lim xs (w.heap.size + 1 + 1 + 1) W3) (fun c pre W => c = .ret ∧ WtX p lim xs (w.heap.size + 1 + 1 + 1) w W ∧ w.heap.size ≤ W.heap.size) (fun k => k = w.heap.size + 1 + 1 + 1 ∨ k = w.heap.size + 1 + 1 + 1 + 1) (fun k hk => ⟨by omega, HRM.out k hk⟩) (fun _ _ _ _ h hag => h.agree hag)
    (fun c pre W1 l o h hl hc => ⟨h.1, h.2.1.putObj o (by omega) (by omega) h.2.2 hc, by rw [putObj_size']; exact h.2.2⟩)
    (fun b pre x M1 a₁ W => WtI p lim xs (w.heap.size + 1 + 1 + 1) W3 pre M1 W ∧ ∃ v0 v1, TkEnc x #[v0, v1] M1 W ∧ a₁ = { tmps := (((b.tmps.setIfInBounds 17 v0).setIfInBounds 18 v1).setIfInBounds 10 v0).setIfInBounds 11 v1, defers := [] })
    ?hI1 ⟨fun rest h => by rw [h]; rfl, bSelf _, .inl rfl, .inr rfl, fun k hk => by omega⟩ ?hassign ?hbody ?hdone ?hstop
  case hI1 =>
    rintro pre x M1 a₁ Wa l o ⟨hI, v0, v1, henc, rfl⟩ hl hml hc
    exact ⟨hI.agree (Agree.putObj _ _ _ hl hml), v0, v1, henc.putObj o hc, rfl⟩
  case hassign =>
    intro l pre x vs rest M1 Wa hxs henc hI hszA
    obtain ⟨a', c', v', ds', rfl, -⟩ := id henc
    clear hsz3 hsq HSQ
    gi_wp2_with fail
    exact ⟨M1, ⟨hI, _, _, henc, rfl⟩, Upd.refl hI.fit⟩
  case hbody =>
    rintro l pre x rest M1 a₁ Wa hxs ⟨hI, v0, v1, henc, rfl⟩ hszA
    simp only [zzT, zzO, zzS]
    have hok := HOK.out x (by rw [hxs]; simp)
    obtain ⟨now, em⟩ := x
    obtain ⟨na, nc, ve, ds, e, hnc, hLv, hEm⟩ := henc
    injection e with e; injection e with e1 e; injection e with e2 _
    dsimp only at e1 hnc hLv hEm
    subst e1 e2
    have hlen := few_sts HP.out hok.nd hok.st
    dsimp only at hlen
    have HI0 := zH hI
    have HLV := zH hLv
    have HEM := zH hEm
    have HXS1 := zH hxs
    have HLK := zH hok
    clear hsz3 hsq HSQ hI hLv hEm hxs hok
    have HBA := zH (bThen HB3.out HI0.out.be)
    have HIX := zH (HI.out Wa HBA.out now ds na nc w.heap.size (w.heap.size + 1 + 1) HLK.out.st (by omega) (KP.out.to HI0.out.be) (KL.out.to HI0.out.be) HLV.out.rd)
    have HWA := zH ((HI0.out.so _ HXS1.out).trans witA_cons)
    have HSO := zH (fun (h : now.find? (fun a => blwQ p lim a.1) = none) (he : em = none) => (show ∀ rest', xs = (pre ++ [(now, em)]) ++ rest' → witA p lim xs = witA p lim rest' from fun rest' hr => by
      have h1 : xs = pre ++ (now, em) :: rest' := by rw [hr, List.append_assoc]; rfl
      have h2 := (HI0.out.so _ h1).trans witA_cons
      rw [h, he] at h2
      exact h2))
    have HFD := zH (find_ar (p := p) (lim := lim) (now := now))
    obtain ⟨i, hi⟩ : ∃ i, arI p lim now = i := ⟨_, rfl⟩
    rw [hi] at HIX HFD
    clear hi
    gi_wp2_with fail
    refine ⟨trivial, ((callsIn_wide.2 HIX.out).inRound l).mono ?_⟩
    rintro e w1 ⟨rfl, hb1⟩
    have HLV1 := zH (HLV.out.to hb1)
    have HEM1 := zH (HEM.out.to hb1)
    have HBA1 := zH (bThen HBA.out hb1)
    have HI1 : Hid (WtI p lim xs (w.heap.size + 1 + 1 + 1) W3 pre M1 w1) := zH (HI0.out.agree (Agree.of_below hb1 (by have := HI0.out.be.size; omega)))
    have HU1 := zH (Upd.of_below HI0.out.fit hb1)
    have KB3 := zH (K3.out.to HI1.out.be)
    have KB4 := zH (K4.out.to HI1.out.be)
    have hEq : ∀ (w : World) (a : Option Addr) (n c : Nat), Sem.run Tryz.prog (binOp .eql 28 (.slice a n c) (.slice none 0 0)) w = .ok (.bool a.isNone) w := fun w a n c => Lib.run_eql_slice_nil w _ _ a n c 0 0 Tryz.underlying28
    have hNe : ∀ (w : World) (a : Option Addr) (n c : Nat), Sem.run Tryz.prog (binOp .neq 28 (.slice a n c) (.slice none 0 0)) w = .ok (.bool (!a.isNone)) w := fun w a n c => run_neq_slice_nil_any w _ _ a n c 0 0 Tryz.underlying28
    obtain ⟨hk3, k3, f3⟩ := KB3.out
    obtain ⟨hk4, k4, f4⟩ := KB4.out
    clear hb1 HI0 HLV HEM HBA HIX
    by_cases hit : i < now.length
    · rw [show idxI i now.length = (i : Int) from if_pos hit]
      have hfd := HFD.out
      rw [if_pos hit] at hfd
      rw [hfd] at HWA
      obtain ⟨bn, on, rfl, hbn, hcn⟩ := (HLV1.out.rd).at (k := i * 3) (by omega)
      have hln := HLV1.out.ln i hit
      have hdr := HLV1.out.dm i hit
      have hnd := HLV1.out.nd i hit
      have hdl := HLK.out.dl _ (ag_mem hit)
      obtain ⟨⟨tv, dl⟩, haj⟩ : ∃ x, ag now i = x := ⟨_, rfl⟩
      obtain ⟨⟨dA, dC⟩, hdj⟩ : ∃ x, ds i = x := ⟨_, rfl⟩
      have e2 : w1.cell? ⟨bn, on + i * 3 + 2, none⟩ = some (.slice dA dl.length dC) := by have := hcn (i * 3 + 1 + 1) (by omega); rw [arrF2, haj, hdj] at this; exact this
      rw [haj] at hln hdr hdl HWA
      rw [hdj] at hln hdr hnd
      dsimp only at hln hdr hdl hnd
      have HLN := zH hln
      have HDR := zH hdr
      have HDN := zH (fun ad h => (hnd ad h).1)
      have hdl' : dl.length ≤ 100000 := by have := HCN.out; omega
      clear hln hdr hnd hcn haj hdj hfd hdl
      cases em with
      | none =>
        have hem := HEM1.out
        obtain rfl : v1 = .slice none 0 0 := hem
        gi_wp2_with fail
        refine ⟨trivial, ?_⟩
        gi_wp2_with fail
        obtain ⟨⟨x1, x2⟩, x3⟩ := WtX.fin (o := dl) (q := dA) (c := dC) HWA.out KB3.out KB4.out HLN.out HDR.out HDN.out HBA1.out (by omega) HI1.out.m3 HI1.out.m4 HU1.out
        exact ⟨M1, ⟨rfl, x1, x2⟩, x3⟩
      | some e0 =>
        obtain ⟨ad, ec, hem, hec, her, hen, -⟩ := HEM1.out
        subst hem
        have HEC := zH hec
        have HER := zH her
        have HEN := zH hen
        have hel : e0.length ≤ 100000 := by have := HLK.out.em _ rfl; have := HCN.out; omega
        have HCM := zH (slCompare_any dl e0 dA (some ad) dC ec w1 hdl' hel HDR.out her)
        clear hec her hen
        by_cases hlt : cmpL dl e0 < 0
        · gi_wp2_with fail
          refine ⟨trivial, ((callsIn_wide.2 HCM.out).inRound l).mono ?_⟩
          rintro e w2 ⟨rfl, rfl⟩
          gi_wp2_with fail
          obtain ⟨⟨x1, x2⟩, x3⟩ := WtX.fin (o := dl) (q := dA) (c := dC) (HWA.out.trans (if_pos hlt)) KB3.out KB4.out HLN.out HDR.out HDN.out HBA1.out (by omega) HI1.out.m3 HI1.out.m4 HU1.out
          exact ⟨M1, ⟨rfl, x1, x2⟩, x3⟩
        · gi_wp2_with fail
          refine ⟨trivial, ((callsIn_wide.2 HCM.out).inRound l).mono ?_⟩
          rintro e w2 ⟨rfl, rfl⟩
          gi_wp2_with fail
          obtain ⟨⟨x1, x2⟩, x3⟩ := WtX.fin (o := e0) (q := some ad) (c := ec) (HWA.out.trans (if_neg (by omega))) KB3.out KB4.out HEC.out HER.out (fun ad' e => by cases e; exact HEN.out) HBA1.out (by omega) HI1.out.m3 HI1.out.m4 HU1.out
          exact ⟨M1, ⟨rfl, x1, x2⟩, x3⟩
    · rw [show idxI i now.length = -1 from if_neg hit]
      have hfd := HFD.out
      rw [if_neg hit] at hfd
      rw [hfd] at HWA
      cases em with
      | none =>
        have hem := HEM1.out
        obtain rfl : v1 = .slice none 0 0 := hem
        have HSO' := zH (HSO.out hfd rfl)
        clear hfd HSO
        gi_wp2_with fail
        all_goals (first | (rename_i h1 h2; exact absurd (Option.some.inj h1) (by unfold undef; simp)) | skip)
        refine ⟨trivial, ?_⟩
        gi_wp2_with fail
        exact ⟨M1, ⟨HSO'.out, HI1.out.be, HI1.out.m3, HI1.out.m4, HI1.out.fit⟩, HU1.out⟩
      | some e0 =>
        obtain ⟨ad, ec, hem, hec, her, hen, -⟩ := HEM1.out
        subst hem
        have HEC := zH hec
        have HER := zH her
        have HEN := zH hen
        clear hec her hen hfd HSO
        gi_wp2_with fail
        all_goals (first | (rename_i h1 h2; exact absurd (Option.some.inj h1) (by unfold undef; simp)) | skip)
        refine ⟨trivial, ?_⟩
        gi_wp2_with fail
        obtain ⟨⟨x1, x2⟩, x3⟩ := WtX.fin (o := e0) (q := some ad) (c := ec) HWA.out KB3.out KB4.out HEC.out HER.out (fun ad' e => by cases e; exact HEN.out) HBA1.out (by omega) HI1.out.m3 HI1.out.m4 HU1.out
        exact ⟨M1, ⟨rfl, x1, x2⟩, x3⟩
  case hdone =>
    intro D M1 Wd hD hMD hI hdef
    have HI0 := zH hI
    have hno : witA p lim xs = none := hI.so [] (by simp)
    have KB3 := zH (K3.out.to hI.be)
    have KB4 := zH (K4.out.to hI.be)
    obtain ⟨hk3, k3, f3⟩ := KB3.out
    obtain ⟨hk4, k4, f4⟩ := KB4.out
    have HNO := zH hno
    have HD : Hid (((Wd.setCell ⟨w.heap.size + 1 + 1 + 1, 0, none⟩ (.slice none 0 0)).setCell ⟨w.heap.size + 1 + 1 + 1 + 1, 0, none⟩ (.bool false)).heap[D]? = some (.deferred (some []))) := by
      have hlt := (Array.getElem?_eq_some_iff.1 hdef).1
      exact zH (((grownBy_setCell' _ _ _).block D (by simpa [World.setCell] using hlt) (by simp; omega)).trans (((grownBy_setCell' _ _ _).block D hlt (by simp; omega)).trans hdef))
    have hDn : w.heap.size + 8 ≤ D := by omega
    clear hsz3 hsq HSQ hI hdef hno
    gi_wp2_with fail
    refine ⟨by simp, .inl ⟨_, _, rfl, run_takeDeferred HD.out, ?_⟩⟩
    have F3 := blk_grown ((KB3.out.set 0 (.slice none 0 0)).other (p := ⟨w.heap.size + 1 + 1 + 1 + 1, 0, none⟩) (by simp) (.bool false)) (grownBy_putObj' _ D (.deferred none)) (fun e => by injection e with e; omega)
    have F4 := blk_grown ((KB4.out.other (p := ⟨w.heap.size + 1 + 1 + 1, 0, none⟩) (by simp) (.slice none 0 0)).set 0 (.bool false)) (grownBy_putObj' _ D (.deferred none)) (fun e => by injection e with e; omega)
    have G3 := F3.2.1 0
    have G4 := F4.2.1 0
    have hbb : Below w.heap.size w (((Wd.setCell ⟨w.heap.size + 1 + 1 + 1, 0, none⟩ (.slice none 0 0)).setCell ⟨w.heap.size + 1 + 1 + 1 + 1, 0, none⟩ (.bool false)).putObj D (.deferred none)) :=
      (((bThen HB3.out HI0.out.be).setCell (p := ⟨w.heap.size + 1 + 1 + 1, 0, none⟩) (by simp; omega) _).setCell (p := ⟨w.heap.size + 1 + 1 + 1 + 1, 0, none⟩) (by simp; omega) _).grown (grownBy_putObj' _ D _) (by have := HB3.out.size; have := HI0.out.be.size; simp [World.setCell]; omega) (fun k e => by cases e; omega)
    clear F3 F4 k3 k4 f3 f4
    refine ⟨.tuple #[.slice none 0 0, .bool false], ?_, ?_⟩
    · simp [results, Tryz.results88, go_sem, G3, G4]
    · show WtPost _ _ _ _
      rw [HNO.out]
      exact ⟨none, 0, rfl, Nat.le_refl _, .inl rfl, hbb, fun _ => ⟨rfl, rfl⟩⟩
  case hstop =>
    rintro D c pre x rest Wd hD hxs ⟨rfl, hX, hsw⟩ hdef
    have HX := zH hX
    have HD := zH hdef
    have HSW := zH hsw
    have hDn : w.heap.size + 8 ≤ D := by omega
    clear hsz3 hsq HSQ hX hdef hsw
    gi_wp2_with fail
    refine ⟨by simp, .inl ⟨_, _, rfl, run_takeDeferred HD.out, ?_⟩⟩
    obtain ⟨o, q, c, hw, k1, k2, hc, hr, hb⟩ := HX.out.putObj (.deferred none) (l := D) (by omega) (by omega) HSW.out ⟨_, HD.out, rfl⟩
    have G3 := k1.2.1 0
    have G4 := k2.2.1 0
    refine ⟨.tuple #[.slice q o.length c, .bool true], ?_, ?_⟩
    · simp [results, Tryz.results88, go_sem, G3, G4]
    · show WtPost _ _ _ _
      rw [hw]
      exact ⟨q, c, rfl, hc, hr, hb, fun h => by cases h⟩
end
end Go.Proofs.YtbpcapcgbnbknaaGreat
