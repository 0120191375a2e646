/-
  Texts of this claim, in their build order: BS4 LS1 OP7 OA8.
-/
import Derived.Test.YtfdlhhinomjakaaHel27
import Derived.Test.YtfdlhhinomjakaaHel33
import Derived.Test.YtfdlhhinomjakaaHel16
import Derived.Test.YtfdlhhinomjakaaHel34
import Derived.Test.YtfdlhhinomjakaaHel35
import Derived.Test.YtfdlhhinomjakaaHel9
import Derived.Test.YtfdlhhinomjakaaHel11
import Derived.Test.YtfdlhhinomjakaaHel12
import Derived.Test.YtfdlhhinomjakaaHel26
import Derived.Test.YtfdlhhinomjakaaHel22
import Derived.Outline
import Derived.Test.YtfdlhhinomjakaaHel21
import Derived.Test.YtfdlhhinomjakaaHel24
import Derived.Test.YtfdlhhinomjakaaHel7

namespace Go.Proofs.Ytfdlhhinomjakaa
section
open Go.RowKit

theorem rtHs : RowTy Try.prog 69 72 4 32 (.agg #[.int .i64 0, .int .i64 0, .int .i64 0, .int .i64 0]) := by
  obtain ⟨i, h1, h2, h3, h4⟩ := info_parts (show (Try.prog.info? 72).map (fun i => (i.zero, i.size, i.bytes)) = some (some (.agg #[.int .i64 0, .int .i64 0, .int .i64 0, .int .i64 0]), 4, 32) by kernel_rfl)
  exact ⟨by kernel_rfl, ⟨i, h1, h2, h3, h4⟩, rfl, by omega, by omega⟩
theorem nextH_bd {x : HT} {zs : List Int} {f : Int} (hx : x.ok) (hs : StH zs) (hf1 : -1000 ≤ f) (hf2 : f ≤ 1000) : -200000 ≤ nextV x zs f ∧ nextV x zs f ≤ 200000 := by
  have h := nextV_bd x (gi zs 0) (gi zs 1) (gi zs 2) (gi zs 3) f hx hs.st hf1 hf2
  have e1 : nextV x [gi zs 0, gi zs 1, gi zs 2, gi zs 3] f = nextV x zs f := by
    unfold nextV pushV
    rw [cmdV_l4 x zs _ (by have := hx.dl1; have := hx.dl2; omega)]
    rfl
  rw [e1] at h
  exact h
theorem nextH_key {x : HT} {zs : List Int} {f : Int} (hx : x.ok) (hs : StH zs) (hf1 : -1000 ≤ f) (hf2 : f ≤ 1000) : BdH (nextL x zs (nextV x zs f)) := by
  have hb := nextH_bd hx hs hf1 hf2
  have h0 := hs.bd 0 (by omega)
  have h1 := hs.bd 1 (by omega)
  have h2 := hs.bd 2 (by omega)
  have k1 := kp_bd (x := x) (j := 1) h1.1 h1.2
  have k2 := kp_bd (x := x) (j := 2) h2.1 h2.2
  refine ⟨rfl, fun i hi => ?_, fun i hi => ?_⟩
  · match i, hi with
    | 0, _ => show _ ≤ nextV x zs f; omega
    | 1, _ => show _ ≤ gi zs 0; omega
    | 2, _ => show _ ≤ kp x 1 (gi zs 1); omega
    | 3, _ => show _ ≤ kp x 2 (gi zs 2); omega
  · match i, hi with
    | 0, _ => show nextV x zs f ≤ _; omega
    | 1, _ => show gi zs 0 ≤ _; omega
    | 2, _ => show kp x 1 (gi zs 1) ≤ _; omega
    | 3, _ => show kp x 2 (gi zs 2) ≤ _; omega
/-- What is known. -/
def setF (o : List (List Int)) (z : List Int) : Option Value := if z ∈ o then some (.agg #[]) else none
theorem setF_val (o : List (List Int)) (z : List Int) : (setF o z).getD (.agg #[]) = .agg #[] := by unfold setF; split <;> rfl
theorem setF_is (o : List (List Int)) (z : List Int) : (setF o z).isSome = decide (z ∈ o) := by
  unfold setF
  by_cases h : z ∈ o
  · rw [if_pos h, decide_eq_true h]; rfl
  · rw [if_neg h, decide_eq_false h]; rfl
theorem setF_snoc (o : List (List Int)) (t z : List Int) : (if z = t then some (Value.agg #[]) else setF o z) = setF (o ++ [t]) z := by
  unfold setF
  by_cases h : z = t
  · rw [if_pos h, if_pos (by rw [h]; simp)]
  · rw [if_neg h]
    by_cases h2 : z ∈ o
    · rw [if_pos h2, if_pos (List.mem_append_left _ h2)]
    · rw [if_neg h2, if_neg (by simp [h, h2])]
theorem alH_no {x : HT} {a : List Int} {o : List (List Int)} {f : Int} (h : inB x (nextV x a f) = false) : alC (nxH x) a o f = o := by
  unfold alC nxH; rw [h]; rfl
theorem alH_in {x : HT} {a : List Int} {o : List (List Int)} {f : Int} (h : inB x (nextV x a f) = true) (hm : nextL x a (nextV x a f) ∈ o) : alC (nxH x) a o f = o := by
  unfold alC nxH
  rw [if_pos h]
  dsimp only
  rw [if_pos (List.any_eq_true.2 ⟨_, hm, decide_eq_true rfl⟩)]
theorem alH_new {x : HT} {a : List Int} {o : List (List Int)} {f : Int} (h : inB x (nextV x a f) = true) (hm : ¬ nextL x a (nextV x a f) ∈ o) : alC (nxH x) a o f = o ++ [nextL x a (nextV x a f)] := by
  unfold alC nxH
  rw [if_pos h]
  dsimp only
  rw [if_neg (fun hc => by
    obtain ⟨y, hy, e⟩ := List.any_eq_true.1 hc
    exact hm (of_decide_eq_true e ▸ hy))]

/-- The memory of the loop: the receiver, the map, its box, the row, its box. -/
structure AllM (x : HT) (o : List (List Int)) (n0 S : Nat) (v : Value) (W : World) : Prop where
  k1 : Blk W n0 x.cells
  mp : MapV W (n0 + 1) o.length (setF o)
  k3 : Blk W (S) #[.map (some (n0 + 1))]
  k4 : Blk W (S + 1 + 1) #[v]
  own : W.ownsRow (S + 1) stH 4 v o.length (hcells o)
  ne : v.ownBlock ≠ some (S + 1 + 1)
  lt : n0 + 1 < S
theorem AllM.to {x : HT} {o : List (List Int)} {n0 S : Nat} {v : Value} {W W' : World} (h : AllM x o n0 S v W) (hb : Below W.heap.size W W') : AllM x o n0 S v W' :=
  ⟨h.k1.to hb, h.mp.to hb, h.k3.to hb, h.k4.to hb, owns_to h.own hb, h.ne, h.lt⟩
theorem owns_agree {B n0 : Nat} {M : Nat → Prop} {W1 W2 : World} {e : TypeId} {s : Nat} {v : Value} {n : Nat} {xs : List Value} (h : W1.ownsRow n0 e s v n xs) (hag : Agree B M W1 W2) (hv : ∀ k, v.ownBlock = some k → M k) : W2.ownsRow n0 e s v n xs := by
  refine ⟨h.1, ?_⟩
  rcases h.2 with hn | ⟨g, cap, cur, rfl, hbg, hg, rest⟩
  · exact .inl hn
  · exact .inr ⟨g, cap, cur, rfl, hbg, agree_heap hag (hv g rfl) hg, rest⟩
theorem AllM.agree {x : HT} {o : List (List Int)} {n0 S : Nat} {v : Value} {W W' : World} {B : Nat} {M : Nat → Prop} (h : AllM x o n0 S v W) (hag : Agree B M W W') (hB : S < B) (hm : M (n0 + 1)) (h4 : M (S + 1 + 1)) (hv : ∀ k, v.ownBlock = some k → M k) : AllM x o n0 S v W' :=
  ⟨h.k1.agree hag (.inr (by have := h.lt; omega)), h.mp.same (hag.same _ h.mp.lt hm), h.k3.agree hag (.inr hB), h.k4.agree hag (.inl h4), owns_agree h.own hag hv, h.ne, h.lt⟩
/-- One more state: known (W1), behind the others (W3), stored (W4). -/
theorem AllM.add {x : HT} {o : List (List Int)} {n0 S : Nat} {v v' : Value} {W W1 W3 : World} {t : List Int} {ob : Obj} {M : Nat → Prop} (h : AllM x o n0 S v W)
    (hM : ∀ k, M k → k < W.heap.size) (hm : M (n0 + 1)) (h4 : M (S + 1 + 1)) (hv : ∀ k, v.ownBlock = some k → M k)
    (hmap : MapV W1 (n0 + 1) (o.length + 1) (fun z => if z = t then some (.agg #[]) else setF o z)) (hg1 : W.grownBy W1 (some (n0 + 1)))
    (hown : W3.ownsRow (S + 1) stH 4 v' (o.length + 1) (hcells o ++ [.int .i64 (gi t 0), .int .i64 (gi t 1), .int .i64 (gi t 2), .int .i64 (gi t 3)])) (hg2 : (W1.alloc ob).grownBy W3 v.ownBlock) (hw : v'.ownBlock = v.ownBlock ∨ v'.ownBlock = some (W1.alloc ob).heap.size) :
    AllM x (o ++ [t]) n0 S v' (W3.setCell ⟨S + 1 + 1, 0, none⟩ v') ∧ Upd M (fun k => M k ∨ v'.ownBlock = some k) W (W3.setCell ⟨S + 1 + 1, 0, none⟩ v') := by
  have hlt := h.own.lt
  have hsz1 := hg1.size
  have hsz2 := hg2.size
  simp only [World.size_alloc] at hsz2 hw
  have b4 := h.k4.1
  have hS := h.lt
  have hne : ∀ b, b ≠ n0 + 1 → b < S + 1 → v.ownBlock ≠ some b := fun b _ hb e => by have := (hlt _ e).1; omega
  have blk : ∀ {b : Nat} {cs : Array Value}, Blk W b cs → b ≠ n0 + 1 → v.ownBlock ≠ some b → Blk W3 b cs := fun hb h1 h2 => blk_grown ((blk_grown hb hg1 (fun e => by injection e with e; exact h1 e.symm)).alloc ob) hg2 h2
  have hne' : v'.ownBlock ≠ some (S + 1 + 1) := fun e => by
    rcases hw with hw | hw
    · rw [hw] at e; exact h.ne e
    · rw [hw] at e; injection e with e; omega
  have g4 := grownBy_setCell' W3 (S + 1 + 1) v'
  refine ⟨⟨?_, ?_, ?_, ?_, ?_, hne', h.lt⟩, ?_⟩
  · exact (blk h.k1 (by omega) (hne _ (by omega) (by omega))).other (p := ⟨S + 1 + 1, 0, none⟩) (by dsimp only; omega) v'
  · rw [List.length_append]
    refine (((hmap.to (bAlloc (bSelf W1) ob)).grown hg2 (fun e => by have := (hlt _ e.symm).1; omega)).grown g4 (fun e => by injection e with e; omega)).ext (fun s _ => setF_snoc o t s)
  · exact (blk h.k3 (by omega) (hne _ (by omega) (by omega))).other (p := ⟨S + 1 + 1, 0, none⟩) (by dsimp only; omega) v'
  · have := (blk h.k4 (by omega) h.ne).set 0 v'
    exact this
  · rw [List.length_append, hcells_snoc]
    exact hown.kept g4 (.inr hne')
  · have u1 : Upd M M W W1 := ⟨hg1.os, hg1.tape, hg1.output, hg1.size, fun k hk hn => hg1.block k hk (fun e => by injection e with e; exact hn (e ▸ hm)), fun k hk => .inl hk, fun k hk => Nat.lt_of_lt_of_le (hM k hk) hg1.size⟩
    have u2 := u1.trans (Upd.of_below u1.fit (bAlloc (bSelf W1) ob))
    exact u2.trans (upd_app u2.fit h4 hv hown hg2 (by simp only [World.size_alloc]; exact hw))
end
section
open Go.RowKit

def ll (L : List (List Int)) (i : Nat) : List Int := L.getD i []
theorem ll_lt {L : List (List Int)} {i : Nat} (h : i < L.length) : ll L i = L[i] := by simp [ll, h]
theorem ll_mem {L : List (List Int)} {i : Nat} (h : i < L.length) : ll L i ∈ L := by rw [ll_lt h]; exact List.getElem_mem h
theorem ll_app1 {L M : List (List Int)} {i : Nat} (h : i < L.length) : ll (L ++ M) i = ll L i := by
  unfold ll; rw [List.getD_eq_getElem?_getD, List.getD_eq_getElem?_getD, List.getElem?_append_left h]
theorem ll_app2 (L : List (List Int)) (x : List Int) : ll (L ++ [x]) L.length = x := by
  unfold ll; rw [List.getD_eq_getElem?_getD, List.getElem?_append_right (Nat.le_refl _), Nat.sub_self]; rfl
theorem rtLst : RowTy Try.prog 30 26 1 24 (.slice none 0 0) := by
  obtain ⟨i, h1, h2, h3, h4⟩ := info_parts (show (Try.prog.info? 26).map (fun i => (i.zero, i.size, i.bytes)) = some (some (.slice none 0 0), 1, 24) by kernel_rfl)
  exact ⟨by kernel_rfl, ⟨i, h1, h2, h3, h4⟩, rfl, by omega, by omega⟩

/-- Lists in memory, to be read. -/
def lsF (L : List (List Int)) (da : Nat → Option Addr × Nat) (i : Nat) : Value := .slice (da i).1 (ll L i).length (da i).2
structure LsR (W : World) (a : Option Addr) (L : List (List Int)) (da : Nat → Option Addr × Nat) : Prop where
  rd : Reads W a L.length (lsF L da)
  dm : ∀ k, k < L.length → Reads W (da k).1 (ll L k).length (ints (ll L k))
theorem LsR.to {W W' : World} {a : Option Addr} {L : List (List Int)} {da : Nat → Option Addr × Nat} (h : LsR W a L da) (hb : Below W.heap.size W W') : LsR W' a L da :=
  ⟨h.rd.to hb, fun k hk => (h.dm k hk).to hb⟩
theorem LsR.one (w : World) (T : TypeId) {B : Nat} (hB : w.heap.size = B) : LsR (w.alloc (.cells #[.slice none 0 0] T)) (some ⟨B, 0, none⟩) [[]] (fun _ => (none, 0)) := by
  refine ⟨Reads.fresh w _ _ _ _ _ hB (fun i hi => ?_), fun k hk => .inl ?_⟩
  · obtain rfl : i = 0 := by simpa using hi
    rfl
  · obtain rfl : k = 0 := by simpa using hk
    rfl
/-- Lists in memory, in a row that grows. -/
def lcells (L : List (List Int)) (da : Nat → Option Addr × Nat) : List Value := (List.range L.length).map (lsF L da)
structure LsO (W : World) (B : Nat) (v : Value) (L : List (List Int)) (da : Nat → Option Addr × Nat) : Prop where
  own : W.ownsRow B 26 1 v L.length (lcells L da)
  dm : ∀ k, k < L.length → Reads W (da k).1 (ll L k).length (ints (ll L k)) ∧ ∀ q, (da k).1 = some q → q.block < W.heap.size ∧ v.ownBlock ≠ some q.block
theorem LsO.to {W W' : World} {B : Nat} {v : Value} {L : List (List Int)} {da : Nat → Option Addr × Nat} (h : LsO W B v L da) (hb : Below W.heap.size W W') : LsO W' B v L da :=
  ⟨owns_to h.own hb, fun k hk => ⟨(h.dm k hk).1.to hb, fun q hq => ⟨Nat.lt_of_lt_of_le ((h.dm k hk).2 q hq).1 hb.size, ((h.dm k hk).2 q hq).2⟩⟩⟩
theorem LsO.nil (W : World) (B : Nat) : LsO W B (.slice none 0 0) [] (fun _ => (none, 0)) :=
  ⟨⟨by simp [lcells], .inl ⟨rfl, rfl⟩⟩, fun k hk => by simp at hk⟩
def daA (da : Nat → Option Addr × Nat) (n : Nat) (x : Option Addr × Nat) (k : Nat) : Option Addr × Nat := if k = n then x else da k
theorem lcells_add {L : List (List Int)} {da : Nat → Option Addr × Nat} {ds : List Int} {x : Option Addr × Nat} :
    lcells L da ++ [.slice x.1 ds.length x.2] = lcells (L ++ [ds]) (daA da L.length x) := by
  unfold lcells
  rw [List.length_append, show [ds].length = 1 from rfl, List.range_succ, List.map_append]
  congr 1
  · refine List.map_congr_left fun k hk => ?_
    have hk' := List.mem_range.1 hk
    have hne : ¬ k = L.length := by omega
    unfold lsF daA
    rw [ll_app1 hk', if_neg hne]
  · show [_] = [_]
    unfold lsF daA
    rw [ll_app2, if_pos rfl]
/-- One more list: its row is new, and the row of lists is appended to. -/
theorem LsO.add {W W1 W2 : World} {B : Nat} {v v' : Value} {L : List (List Int)} {da : Nat → Option Addr × Nat} {ds : List Int} {x : Option Addr × Nat} (h : LsO W B v L da)
    (hb : Below W.heap.size W W1) (hr : Reads W1 x.1 ds.length (ints ds)) (hx : ∀ q, x.1 = some q → W.heap.size ≤ q.block ∧ q.block < W1.heap.size)
    (hown : W2.ownsRow B 26 1 v' (L.length + 1) (lcells L da ++ [.slice x.1 ds.length x.2])) (hg : W1.grownBy W2 v.ownBlock) (hw : v'.ownBlock = v.ownBlock ∨ v'.ownBlock = some W1.heap.size) :
    LsO W2 B v' (L ++ [ds]) (daA da L.length x) := by
  have h1 := h.to hb
  have hlt := h.own.lt
  have hne : ∀ b, b < W1.heap.size → v.ownBlock ≠ some b → v'.ownBlock ≠ some b := fun b hb1 hb2 e => by
    rcases hw with hw | hw
    · rw [hw] at e; exact hb2 e
    · rw [hw] at e; injection e with e; omega
  refine ⟨?_, fun k hk => ?_⟩
  · rw [List.length_append, ← lcells_add]
    exact hown
  · by_cases hk2 : k = L.length
    · subst hk2
      have e1 : daA da L.length x L.length = x := by unfold daA; rw [if_pos rfl]
      rw [e1, ll_app2]
      have hnb : ∀ q, x.1 = some q → v.ownBlock ≠ some q.block := fun q hq e => by
        have := (hlt _ e).2; have := (hx q hq).1; omega
      exact ⟨hr.grown hg (fun q hq e => hnb q hq e.symm), fun q hq => ⟨Nat.lt_of_lt_of_le (hx q hq).2 hg.size, hne _ (hx q hq).2 (hnb q hq)⟩⟩
    · have hk' : k < L.length := by rw [List.length_append] at hk; simp only [List.length_cons, List.length_nil] at hk; omega
      have e1 : daA da L.length x k = da k := by unfold daA; rw [if_neg hk2]
      rw [e1, ll_app1 hk']
      obtain ⟨k1, k2⟩ := h1.dm k hk'
      exact ⟨k1.grown hg (fun q hq e => (k2 q hq).2 e.symm), fun q hq => ⟨Nat.lt_of_lt_of_le (k2 q hq).1 hg.size, hne _ (k2 q hq).1 (k2 q hq).2⟩⟩
/-- A round of the loop that makes lists: a copy, one more demand behind it, and the whole behind the lists. -/
theorem LsO.step {y wr u1 w8 w9 : World} {B : Nat} {v v' : Value} {L : List (List Int)} {da : Nat → Option Addr × Nat} {ds : List Int} {od : Int} {a1 a2 : Option Addr} {c1 c2 : Nat} {o1 o2 : Obj} (h : LsO wr B v L da)
    (h0 : Below B y wr) (hs : B ≤ wr.heap.size) (hbc : Below wr.heap.size wr u1) (ho : u1.ownsRow wr.heap.size 3 1 (.slice a1 ds.length c1) ds.length (ds.map fun z => Value.int .i64 z))
    (hown1 : w8.ownsRow wr.heap.size 3 1 (.slice a2 (ds.length + 1) c2) (ds.length + 1) ((ds.map fun z => Value.int .i64 z) ++ [.int .i64 od])) (hg1 : (u1.alloc o1).grownBy w8 (Value.slice a1 ds.length c1).ownBlock)
    (hown2 : w9.ownsRow B 26 1 v' (L.length + 1) (lcells L da ++ [.slice a2 (ds.length + 1) c2])) (hg2 : (w8.alloc o2).grownBy w9 v.ownBlock) (hw2 : v'.ownBlock = v.ownBlock ∨ v'.ownBlock = some (w8.alloc o2).heap.size) :
    LsO w9 B v' (L ++ [ds ++ [od]]) (daA da L.length (a2, c2)) ∧ Below B y w9 := by
  have hb8 : Below wr.heap.size wr w8 := (bAlloc hbc _).grown hg1 (by have := hbc.size; simp only [World.size_alloc]; omega) (fun k e => (ho.lt k e).1)
  have hb9 : Below wr.heap.size wr (w8.alloc o2) := bAlloc hb8 _
  have hown1' : w8.ownsRow wr.heap.size 3 1 (.slice a2 (ds.length + 1) c2) (ds ++ [od]).length ((ds ++ [od]).map fun z => Value.int .i64 z) := by
    rw [List.length_append, List.map_append]; exact hown1
  obtain ⟨a3, c3, e3, -, hr, hfr⟩ := Reads.of_owns' hown1'
  injection e3 with e3 e4 e5
  subst e3
  have hle : (ds ++ [od]).length = ds.length + 1 := by simp
  refine ⟨LsO.add (x := (a2, c2)) h hb9 (hr.alloc _) (fun q hq => ⟨hfr q hq, ?_⟩) (by rw [hle]; exact hown2) hg2 hw2, ?_⟩
  · obtain ⟨b, off, e, hb, -⟩ := hr.at (k := 0) (by omega)
    rw [e] at hq
    cases hq
    simp only [World.size_alloc]
    omega
  · have h2 : Below B y (w8.alloc o2) := h0.trans (hb9.mono hs)
    refine h2.grown hg2 (by have := hb9.size; omega) (fun k e => (h.own.lt k e).1)
/-- What the row reads as. -/
theorem LsO.enc {W : World} {B : Nat} {v : Value} {L : List (List Int)} {da : Nat → Option Addr × Nat} (h : LsO W B v L da) : ∃ a c, v = .slice a L.length c ∧ L.length ≤ c ∧ LsR W a L da := by
  obtain ⟨a, c, rfl, hc, hr, -⟩ := Reads.of_row (f := lsF L da) h.own (fun i hi => by
    unfold lcells
    rw [List.getElem?_map, List.getElem?_range (by omega)]
    rfl)
  rw [Nat.mul_one] at hr
  exact ⟨a, c, rfl, hc, hr, fun k hk => (h.dm k hk).1⟩
end
section
open Go.RowKit

/-- Points of a line that does not fall: at most 8, the first at 0. -/
structure LinOk (l : List (Int × Int)) : Prop where
  two : 2 ≤ l.length
  few : l.length ≤ 8
  v0 : (fg l 0).1 = 0
  vol : ∀ k, k < l.length → 0 ≤ (fg l k).1 ∧ (fg l k).1 ≤ 1000
  prs : ∀ k, k < l.length → 0 ≤ (fg l k).2 ∧ (fg l k).2 ≤ 1000
  up : ∀ k, k + 1 < l.length → (fg l k).1 < (fg l (k + 1)).1 ∧ (fg l k).2 ≤ (fg l (k + 1)).2
theorem LinOk.mono {l : List (Int × Int)} (h : LinOk l) {i : Nat} : ∀ {d : Nat}, i + d < l.length → (fg l i).1 + d ≤ (fg l (i + d)).1 ∧ (fg l i).2 ≤ (fg l (i + d)).2
  | 0, _ => by simp
  | d + 1, hd => by
    have h1 := h.mono (i := i) (d := d) (by omega)
    have h2 := h.up (i + d) (by omega)
    rw [show i + (d + 1) = i + d + 1 by omega]
    omega
end
section
open Go.RowKit
attribute [local go_sem] Oper.semAt_some

theorem Blk.c1 {w : World} {b : Nat} {cs : Array Value} (h : Blk w b cs) : ∀ (o1 : Obj) (o : Nat), (w.alloc o1).cell? ⟨b, o, none⟩ = cs[o]? := fun o1 o => (h.alloc o1).2.1 o
theorem Blk.c2 {w : World} {b : Nat} {cs : Array Value} (h : Blk w b cs) : ∀ (o1 o2 : Obj) (o : Nat), ((w.alloc o1).alloc o2).cell? ⟨b, o, none⟩ = cs[o]? := fun o1 o2 o => ((h.alloc o1).alloc o2).2.1 o
theorem Blk.f1 {w : World} {b : Nat} {cs : Array Value} (h : Blk w b cs) : ∀ (o1 : Obj) (o : Nat), (w.alloc o1).frozen? ⟨b, o, none⟩ = false := fun o1 o => (h.alloc o1).2.2 o
end
end Go.Proofs.Ytfdlhhinomjakaa
