/-
  Texts of this claim, in their build order: OR20 OR21 OW3 OW8 OP18 OM28 OR25 OR27 OR24 OM29 OR28 OL11.
-/
import Derived.Test.YtjfedpblkejmkaaGreatPer47
import Derived.Test.YtjfedpblkejmkaaGreatPer45
import Derived.Test.YtjfedpblkejmkaaGreatPer25
import Derived.Test.YtjfedpblkejmkaaGreatPer26
import Derived.Test.YtjfedpblkejmkaaGreatPer24
import Derived.Test.YtjfedpblkejmkaaGreatPer33
import Derived.Test.YtjfedpblkejmkaaGreatPer42
import Derived.Test.YtjfedpblkejmkaaGreatPer46
import Derived.Test.YtjfedpblkejmkaaGreatPer20
import Derived.Test.YtjfedpblkejmkaaGreatPer34
import Derived.Test.YtjfedpblkejmkaaGreatPer7
import Derived.Test.YtjfedpblkejmkaaGreatPer35
import Derived.Test.YtjfedpblkejmkaaGreatPer6
import Derived.Test.YtjfedpblkejmkaaGreatPer0

namespace Go.Proofs.YtjfedpblkejmkaaGreat
open Go.RowKit
attribute [local go_sem] Oper.semAt_some

/-- One demand after one state. -/
def aftF (p : Plt) (s : OSt) (o : List OSt) (n : Int) : List OSt := match nxtA p s n with | none => o | some t => putS o t
def aftG (p : Plt) (r : Int × Int) (o : List OSt) (s : OSt) : List OSt := (rngL r).foldl (aftF p s) o
theorem putS_len (s : OSt) : ∀ l : List OSt, (putS l s).length ≤ l.length + 1
  | [] => by simp [putS]
  | x :: l => by
    rw [putS_cons]
    split
    · simp
    · split
      · simp
      · have := putS_len s l
        simp only [List.length_cons]
        omega
theorem rngL_drop {r : Int × Int} {j : Nat} (h : r.1 + (j : Int) ≤ r.2) : (rngL r).drop j = (r.1 + (j : Int)) :: (rngL r).drop (j + 1) := by
  have hl : j < (rngL r).length := by unfold rngL; rw [List.length_map, List.length_range]; omega
  rw [List.drop_eq_getElem_cons hl]
  congr 1
  simp [rngL]
theorem rngL_end {r : Int × Int} {j : Nat} (h : r.2 < r.1 + (j : Int)) : (rngL r).drop j = [] := by
  refine List.drop_eq_nil_of_le ?_
  unfold rngL
  rw [List.length_map, List.length_range]
  omega
def nnB (p : Plt) (s : OSt) (n : Int) : Bool := (nxtA p s n).isNone
/-- Within a state: the demands so far. -/
structure AfI (p : Plt) (r : Int × Int) (l : List OSt) (i j : Nat) (o : List OSt) (wh : Bool) : Prop where
  eq : aftR p r l = (l.drop (i + 1)).foldl (aftG p r) (((rngL r).drop j).foldl (aftF p (sg l i)) o)
  em : EmpB p r l = (!wh || ((rngL r).drop j).any (nnB p (sg l i)) || EmpB p r (l.drop (i + 1)))
  srt : SrtS o
  len : o.length ≤ 51 * i + j
/-- Between states. -/
structure AfO (p : Plt) (r : Int × Int) (l : List OSt) (i : Nat) (o : List OSt) (wh : Bool) : Prop where
  eq : aftR p r l = (l.drop i).foldl (aftG p r) o
  em : EmpB p r l = (!wh || EmpB p r (l.drop i))
  srt : SrtS o
  len : o.length ≤ 51 * i
theorem AfO.start (p : Plt) (r : Int × Int) (l : List OSt) : AfO p r l 0 [] true := ⟨rfl, by simp, List.Pairwise.nil, by simp⟩
theorem AfO.into {p : Plt} {r : Int × Int} {l : List OSt} {i : Nat} {o : List OSt} {wh : Bool} (h : AfO p r l i o wh) (hi : i < l.length) : AfI p r l i 0 o wh := by
  refine ⟨?_, ?_, h.srt, by have := h.len; omega⟩
  · rw [h.eq, drop_sg hi, List.foldl_cons]
    rfl
  · rw [h.em, drop_sg hi]
    unfold EmpB
    rw [List.any_cons, Bool.or_assoc]
    rfl
theorem AfI.out {p : Plt} {r : Int × Int} {l : List OSt} {i j : Nat} {o : List OSt} {wh : Bool} (h : AfI p r l i j o wh) (hj : r.2 < r.1 + (j : Int)) (hj2 : j ≤ 51) : AfO p r l (i + 1) o wh := by
  have e := rngL_end hj
  refine ⟨?_, ?_, h.srt, by have := h.len; omega⟩
  · rw [h.eq, e]; rfl
  · rw [h.em, e]; simp
theorem AfI.none {p : Plt} {r : Int × Int} {l : List OSt} {i j : Nat} {o : List OSt} {wh : Bool} (h : AfI p r l i j o wh) (hj : r.1 + (j : Int) ≤ r.2) (hn : nxtA p (sg l i) (r.1 + (j : Int)) = none) : AfI p r l i (j + 1) o false := by
  refine ⟨?_, ?_, h.srt, by have := h.len; omega⟩
  · rw [h.eq, rngL_drop hj, List.foldl_cons]
    unfold aftF
    rw [hn]
  · rw [h.em, rngL_drop hj, List.any_cons]
    unfold nnB
    rw [hn]
    simp
theorem AfI.some {p : Plt} {r : Int × Int} {l : List OSt} {i j : Nat} {o : List OSt} {wh : Bool} {t : OSt} (h : AfI p r l i j o wh) (hj : r.1 + (j : Int) ≤ r.2) (hn : nxtA p (sg l i) (r.1 + (j : Int)) = some t) : AfI p r l i (j + 1) (putS o t) wh := by
  refine ⟨?_, ?_, srt_putS h.srt, by have := h.len; have := putS_len t o; omega⟩
  · rw [h.eq, rngL_drop hj, List.foldl_cons]
    have : aftF p (sg l i) o (r.1 + (j : Int)) = putS o t := by unfold aftF; rw [hn]
    rw [this]
  · rw [h.em, rngL_drop hj, List.any_cons]
    have : nnB p (sg l i) (r.1 + (j : Int)) = false := by unfold nnB; rw [hn]; rfl
    rw [this, Bool.false_or]
theorem AfO.fin {p : Plt} {r : Int × Int} {l : List OSt} {o : List OSt} {wh : Bool} (h : AfO p r l l.length o wh) : aftR p r l = o ∧ (!EmpB p r l) = wh := by
  refine ⟨?_, ?_⟩
  · rw [h.eq, List.drop_length]; rfl
  · rw [h.em, List.drop_length]
    unfold EmpB
    simp

def AftPost (p : Plt) (r : Int × Int) (l : List OSt) (w : World) (e : Ending) (w' : World) : Prop :=
  ∃ a' c', e = .returned (.tuple #[.slice a' (aftR p r l).length c', .bool (!EmpB p r l)]) ∧ (aftR p r l).length ≤ c' ∧ Reads w' a' ((aftR p r l).length * 2) (osts (aftR p r l)) ∧ Below w.heap.size w w'

set_option maxHeartbeats 12800000 in
set_option maxRecDepth 100000 in
theorem rAfter_any (p : Plt) (r : Int × Int) (l : List OSt) (a al : Option Addr) (cap cl : Nat) (w : World) (hp : PltOk p) (hrg : 0 ≤ r.1 ∧ r.2 ≤ 50) (hst : ∀ k, k < l.length → StOk p (sg l k)) (hlen : l.length ≤ 1000) (hr : Reads w a (p.pts.length * 2) (fracs p.pts)) (hrl : Reads w al (l.length * 2) (osts l)) :
    Calls Tryz.prog 149 #[.agg (plC p a cap), .slice al l.length cl, .agg #[.int .i64 r.1, .int .i64 r.2]] w (AftPost p r l w) := by
  have HNX := zH (fun W k (hk : k < l.length) d (hd : 0 ≤ d ∧ d ≤ 50) (hb : Below w.heap.size w W) => rnNext_any p (sg l k) d a cap W hp (hst k hk) hd (hr.to hb))
  have HA := zH hrl
  have HIN := zH (fun i o wh (h : AfO p r l i o wh) hi => h.into hi)
  have HOUT := zH (fun i j o wh (h : AfI p r l i j o wh) hj hj2 => h.out hj hj2)
  have HNO := zH (fun i j o wh (h : AfI p r l i j o wh) hj hn => h.none hj hn)
  have HSO := zH (fun i j o wh t (h : AfI p r l i j o wh) hj hn => h.some (t := t) hj hn)
  have HFN := zH (fun o wh (h : AfO p r l l.length o wh) => h.fin)
  have HST := zH (AfO.start p r l)
  obtain ⟨n, hn⟩ : ∃ n, l.length = n := ⟨_, rfl⟩
  rw [hn] at HNX HA HIN HFN hlen ⊢
  obtain ⟨r1, r2⟩ := r
  obtain ⟨hr0, hr1⟩ := hrg
  dsimp only at hr0 hr1 HOUT HNO HSO ⊢
  unfold plC at HNX ⊢
  clear hr hrl hn hst
  go_enter Tryz.func149, Tryz.ntmps149
  go_wp2_with fail
  obtain ⟨W, hW⟩ : ∃ W, (w.alloc (.cells #[.slice a p.pts.length cap, .int .i64 p.pump, .int .i64 p.on, .int .i64 p.off] 44)).alloc (.cells #[.int .i64 r1, .int .i64 r2] 25) = W := ⟨_, rfl⟩
  rw [hW]
  have K3 : Hid (Blk W w.heap.size #[.slice a p.pts.length cap, .int .i64 p.pump, .int .i64 p.on, .int .i64 p.off]) := by subst hW; exact zH ((Blk.new _ _ _).alloc _)
  have K5 : Hid (Blk W (w.heap.size + 1) #[.int .i64 r1, .int .i64 r2]) := by subst hW; exact zH (Blk.newAt _ _ _ (by simp))
  have HB : Hid (Below w.heap.size w W) := by subst hW; exact zH (bAlloc (bAlloc (bSelf w) _) _)
  replace HA := zH (HA.out.to HB.out)
  clear hW
  go_loopw [8, 9, 10, 11, 12, 13] (fun s8 s9 s10 _ _ _ wr => ∃ (i : Nat) (va : Option Addr) (vc : Nat) (wh : Bool) (o : List OSt), s8 = .slice va o.length vc ∧ s9 = .bool wh ∧ s10 = .int .i64 i ∧ i ≤ n ∧ o.length ≤ vc ∧ Hid (AfO p (r1, r2) l i o wh) ∧ Hid (Reads wr va (o.length * 2) (osts o)) ∧ Hid (Below W.heap.size W wr)) (fun _ _ s10 _ _ _ _ => n - (intOf s10).toNat)
  case atStart => exact ⟨0, none, 0, true, [], rfl, rfl, rfl, Nat.zero_le _, Nat.zero_le _, HST, zH (.inl rfl), zH (bSelf W)⟩
  case round =>
    obtain ⟨i, va, vc, wh, o, rfl, rfl, rfl, hi, hvc, HP, HRo, HR0⟩ := hrel
    by_cases hlt : i < n
    · have HPI := zH (HIN.out i o wh HP.out hlt)
      obtain ⟨wv, hwv⟩ : ∃ wv, wv = wr := ⟨_, rfl⟩
      subst hwv
      obtain ⟨ba, oa, rfl, hba, hca⟩ := HA.out.at (k := i * 2) (by omega)
      obtain ⟨⟨n1, d1⟩, hz⟩ : ∃ q, sg l i = q := ⟨_, rfl⟩
      have h1 : Hid (W.cell? ⟨ba, oa + i * 2, none⟩ = some (.int .i64 n1)) := zH (by rw [hca _ (by omega), osts0, hz])
      have h2 : Hid (W.cell? ⟨ba, oa + i * 2 + 1, none⟩ = some (.bool d1)) := zH (by rw [Nat.add_assoc, hca _ (by omega), osts1, hz])
      have HNK := zH (fun W d hd hb => HNX.out W i hlt d hd hb)
      have HOK := zH (fun j o wh h hj hj2 => HOUT.out i j o wh h hj hj2)
      have HNOK := zH (fun j o wh h hj hn => HNO.out i j o wh h hj hn)
      have HSOK := zH (fun j o wh t h hj hn => HSO.out i j o wh t h hj hn)
      rw [hz] at HNK HNOK HSOK
      dsimp only at HNK
      clear hca hz HNX HOUT HNO HSO HFN HST HIN HP
      obtain ⟨-, k5, -⟩ := K5.out.to HR0.out
      go_wp2_with fail
      clear k5
      go_loopw [8, 9, 11, 12, 13] (fun s8 s9 s11 _ _ wr => ∃ (j : Nat) (va : Option Addr) (vc : Nat) (wh : Bool) (o : List OSt), s8 = .slice va o.length vc ∧ s9 = .bool wh ∧ s11 = .int .i64 (r1 + (j : Int)) ∧ j ≤ 51 ∧ o.length ≤ vc ∧ Hid (AfI p (r1, r2) l i j o wh) ∧ Hid (Reads wr va (o.length * 2) (osts o)) ∧ Hid (Below W.heap.size W wr)) (fun _ _ s11 _ _ _ => (r2 + 1 - intOf s11).toNat)
      case atStart => exact ⟨0, va, vc, wh, o, rfl, rfl, by go_num, Nat.zero_le _, hvc, HPI, HRo, HR0⟩
      case round =>
        clear HPI HRo HR0 hvc
        obtain ⟨j, va, vc, wh, o, rfl, rfl, rfl, hj, hvc, HP, HRo, HR0⟩ := hrel
        obtain ⟨-, k5, -⟩ := K5.out.to HR0.out
        by_cases hle : r1 + (j : Int) ≤ r2
        · obtain ⟨d, hd⟩ : ∃ d, r1 + (j : Int) = d := ⟨_, rfl⟩
          have hd0 : 0 ≤ d := by omega
          have hd1 : d ≤ 50 := by omega
          have HNN := zH (fun h => HNOK.out j o wh HP.out hle h)
          have HSS := zH (fun t h => HSOK.out j o wh t HP.out hle h)
          have HND := zH (fun W hb => HNK.out W d ⟨hd0, hd1⟩ hb)
          have HSR := zH HP.out.srt
          have HLN := zH HP.out.len
          have HDD : Hid (d + 1 = r1 + ((j + 1 : Nat) : Int)) := zH (by omega)
          have hdr : d ≤ r2 := by omega
          have hjn : j + 1 ≤ 51 := by omega
          rw [hd] at HNN HSS ⊢
          clear hd hle
          obtain ⟨nx, hnx⟩ : ∃ x, nxtA p (n1, d1) d = x := ⟨_, rfl⟩
          rw [hnx] at HND HNN HSS
          clear hnx HP HNOK HSOK HNK HOK
          obtain ⟨⟨t1, t2⟩, ht⟩ : ∃ x, nx.getD (0, false) = x := ⟨_, rfl⟩
          have HT := zH ht
          rw [ht] at HND
          dsimp only at HND
          clear ht
          obtain ⟨wu, hwu⟩ : ∃ wu, wu = wr := ⟨_, rfl⟩
          subst hwu
          go_wp2_with fail
          clear k5
          go_cut [12, 13] from 28 to 37 (fun s12 s13 wc => ∃ B, s12 = .pointer (some ⟨B, 0, none⟩) ∧ s13 = .bool nx.isSome ∧ Hid (Blk wc B #[.int .i64 t1, .bool t2]) ∧ Hid (Below wu.heap.size wu wc))
          case first =>
            have K3u := zH (K3.out.to HR0.out)
            have hbu : ba < wu.heap.size := Nat.lt_of_lt_of_le hba HR0.out.size
            have C0 : Hid (wu.cell? ⟨ba, oa + i * 2, none⟩ = some (.int .i64 n1)) := zH ((HR0.out.cell (p := ⟨ba, oa + i * 2, none⟩) hba).trans h1.out)
            have C1 : Hid (wu.cell? ⟨ba, oa + i * 2 + 1, none⟩ = some (.bool d1)) := zH ((HR0.out.cell (p := ⟨ba, oa + i * 2 + 1, none⟩) hba).trans h2.out)
            have HBu := zH (bThen HB.out HR0.out)
            refine wp_region_tree (by kernel_rfl) (fun wd hwd => ?_)
            have T := zH hwd
            clear hwd
            refine WT_yes 0 rfl (by kernel_rfl) (fun _ _ _ _ _ h => h) (by rfl) ?_; apply Exists.intro; refine ⟨fun w1 hb1 => ?_, ?_⟩; (focus (((obtain ⟨-, k3, -⟩ := K3u.out.to (T.out.trans hb1)); have hb1 := zH hb1; go_simp); (try (go_bits; try go_simp)); (try (rw [if_pos (by omega)]; try go_simp)); (first | done | (with_reducible rfl) | exact rfl)))
            simp only [Act.put, zzT, zzO, zzS]
            refine WT_yes 1 rfl (by kernel_rfl) (fun _ _ _ _ _ h => h) (by rfl) ?_; apply Exists.intro; refine ⟨fun w1 hb1 => ?_, ?_⟩; (focus ((have hb1 := zH hb1; go_simp); (try (go_bits; try go_simp)); (try (rw [if_pos (by omega)]; try go_simp)); (first | done | (with_reducible rfl) | exact rfl)))
            simp only [Act.put, zzT, zzO, zzS]
            refine WT_yes 2 rfl (by kernel_rfl) (fun _ _ _ _ _ h => h) (by rfl) ?_; apply Exists.intro; refine ⟨fun w1 hb1 => ?_, ?_⟩; (focus ((have hb1 := zH hb1; go_simp); (try (go_bits; try go_simp)); (try (rw [if_pos (by omega)]; try go_simp)); (first | done | (with_reducible rfl) | exact rfl)))
            simp only [Act.put, zzT, zzO, zzS]
            refine WT_yes 3 rfl (by kernel_rfl) (fun _ _ _ _ _ h => h) (by rfl) ?_; apply Exists.intro; refine ⟨fun w1 hb1 => ?_, ?_⟩; (focus ((have hb1 := zH hb1; go_simp); (try (go_bits; try go_simp)); (try (rw [if_pos (by omega)]; try go_simp)); (first | done | (with_reducible rfl) | exact rfl)))
            simp only [Act.put, zzT, zzO, zzS]
            refine WT_yes 4 rfl (by kernel_rfl) (fun _ _ _ _ _ h => h) (by rfl) ?_; apply Exists.intro; refine ⟨fun w1 hb1 => ?_, ?_⟩; (focus (((have c0 := ((T.out.trans hb1).cell (p := ⟨ba, oa + i * 2, none⟩) hbu).trans C0.out; have c1 := ((T.out.trans hb1).cell (p := ⟨ba, oa + i * 2 + 1, none⟩) hbu).trans C1.out); have hb1 := zH hb1; go_simp); (try (go_bits; try go_simp)); (try (rw [if_pos (by omega)]; try go_simp)); (first | done | (with_reducible rfl) | exact rfl)))
            simp only [Act.put, zzT, zzO, zzS]
            refine WT_yes 5 rfl (by kernel_rfl) (fun _ _ _ _ _ h => h) (by rfl) ?_; apply Exists.intro; refine ⟨fun w1 hb1 => ?_, ?_⟩; (focus ((have hb1 := zH hb1; go_simp); (try (go_bits; try go_simp)); (try (rw [if_pos (by omega)]; try go_simp)); (first | done | (with_reducible rfl) | exact rfl)))
            simp only [Act.put, zzT, zzO, zzS]
            refine WT_two 6 10 rfl rfl (by kernel_rfl) ?_ ?_
            · unfold stepT
              go_wp2_with fail
              refine (HND.out _ (bThen HBu.out T.out)).mono ?_
              rintro e u1 ⟨rfl, hb⟩
              have hbd := zH (hb.mono T.out.size)
              replace T := zH (bThen T.out hb)
              clear hb
              go_wp2_with fail
              refine ⟨hbd.out, ?_⟩
              clear hbd
              refine WT_yes 7 rfl (by kernel_rfl) (fun _ _ _ _ _ h => h) (by rfl) ?_; apply Exists.intro; refine ⟨fun w1 hb1 => ?_, ?_⟩; (focus ((have hb1 := zH hb1; go_simp); (try (go_bits; try go_simp)); (try (rw [if_pos (by omega)]; try go_simp)); (first | done | (with_reducible rfl) | exact rfl)))
              simp only [Act.put, zzT, zzO, zzS]
              refine WT_yes 8 rfl (by kernel_rfl) (fun _ _ _ _ _ h => h) (by rfl) ?_; apply Exists.intro; refine ⟨fun w1 hb1 => ?_, ?_⟩; (focus ((have hb1 := zH hb1; go_simp); (try (go_bits; try go_simp)); (try (rw [if_pos (by omega)]; try go_simp)); (first | done | (with_reducible rfl) | exact rfl)))
              simp only [Act.put, zzT, zzO, zzS]
              refine WT_yes 9 rfl (by kernel_rfl) (fun _ _ _ _ _ h => h) (by rfl) ?_; apply Exists.intro; refine ⟨fun w1 hb1 => ?_, ?_⟩; (focus ((have hb1 := zH hb1; go_simp); (try (go_bits; try go_simp)); (try (rw [if_pos (by omega)]; try go_simp)); (first | done | (with_reducible rfl) | exact rfl)))
              simp only [Act.put, zzT, zzO, zzS]
              refine WT_one 10 rfl (by kernel_rfl) ?_
              unfold stepT
              go_wp2_with fail
              obtain ⟨u2, hwA⟩ : ∃ wA, u1.alloc (.cells #[.int .i64 0, .bool false] 46) = wA := ⟨_, rfl⟩
              rw [hwA]
              have hb : Below u1.heap.size u1 u2 := by subst hwA; exact bAlloc (bSelf _) _
              have KBN : Hid (Blk u2 u1.heap.size #[.int .i64 0, .bool false]) := by subst hwA; exact Blk.new _ _ _
              clear hwA
              have BNN : Hid (wu.heap.size ≤ u1.heap.size) := zH T.out.size
              obtain ⟨BN, hBN⟩ : ∃ N, u1.heap.size = N := ⟨_, rfl⟩
              have hbd := zH (hb.mono T.out.size)
              replace T := zH (bThen T.out hb)
              clear hb
              rw [hBN] at KBN BNN  ⊢
              clear hBN
              refine ⟨hbd.out, ?_⟩
              clear hbd
              refine WT_one 11 rfl (by kernel_rfl) ?_
              unfold stepT
              obtain ⟨-, kx, fx⟩ := KBN.out
              go_wp2_with fail
              clear kx fx
              obtain ⟨u3, hu⟩ : ∃ u, (u2.setCell ⟨BN, 0, none⟩ (.int .i64 t1)).setCell ⟨BN, 1, none⟩ (.bool t2) = u := ⟨_, rfl⟩
              have hb : Below wu.heap.size u2 u3 := by rw [← hu]; exact ((Below.refl _ _).setCell (p := ⟨BN, 0, none⟩) BNN.out _).setCell (p := ⟨BN, 1, none⟩) BNN.out _
              replace KBN := zH ((KBN.out.set 0 (.int .i64 t1)).set 1 (.bool t2))
              rw [hu] at KBN ⊢
              clear hu
              replace T := zH (T.out.trans hb)
              refine ⟨hb, ?_⟩
              clear hb
              refine WT_yes 12 rfl (by kernel_rfl) (fun _ _ _ _ _ h => h) (by rfl) ?_; apply Exists.intro; refine ⟨fun w1 hb1 => ?_, ?_⟩; (focus ((have hb1 := zH hb1; go_simp); (try (go_bits; try go_simp)); (try (rw [if_pos (by omega)]; try go_simp)); (first | done | (with_reducible rfl) | exact rfl)))
              simp only [Act.put, zzT, zzO, zzS]
              refine WT_done (by kernel_rfl) ?_
              go_wp2_with fail
              go_meet
              case rel => exact ⟨BN, rfl, rfl, KBN, T⟩
            · unfold stepT
              go_wp2_with fail
              obtain ⟨u1, hwA⟩ : ∃ wA, wd.alloc (.cells #[.int .i64 0, .bool false] 46) = wA := ⟨_, rfl⟩
              rw [hwA]
              have hb : Below wd.heap.size wd u1 := by subst hwA; exact bAlloc (bSelf _) _
              have KBN : Hid (Blk u1 wd.heap.size #[.int .i64 0, .bool false]) := by subst hwA; exact Blk.new _ _ _
              clear hwA
              have BNN : Hid (wu.heap.size ≤ wd.heap.size) := zH T.out.size
              obtain ⟨BN, hBN⟩ : ∃ N, wd.heap.size = N := ⟨_, rfl⟩
              have hbd := zH (hb.mono T.out.size)
              replace T := zH (bThen T.out hb)
              clear hb
              rw [hBN] at KBN BNN  ⊢
              clear hBN
              refine ⟨hbd.out, ?_⟩
              clear hbd
              refine WT_one 6 rfl (by kernel_rfl) ?_
              unfold stepT
              go_wp2_with fail
              refine (HND.out _ (bThen HBu.out T.out)).mono ?_
              rintro e u2 ⟨rfl, hb⟩
              replace KBN := zH (KBN.out.to hb)
              have hbd := zH (hb.mono T.out.size)
              replace T := zH (bThen T.out hb)
              clear hb
              go_wp2_with fail
              refine ⟨hbd.out, ?_⟩
              clear hbd
              refine WT_yes 7 rfl (by kernel_rfl) (fun _ _ _ _ _ h => h) (by rfl) ?_; apply Exists.intro; refine ⟨fun w1 hb1 => ?_, ?_⟩; (focus ((have hb1 := zH hb1; go_simp); (try (go_bits; try go_simp)); (try (rw [if_pos (by omega)]; try go_simp)); (first | done | (with_reducible rfl) | exact rfl)))
              simp only [Act.put, zzT, zzO, zzS]
              refine WT_yes 8 rfl (by kernel_rfl) (fun _ _ _ _ _ h => h) (by rfl) ?_; apply Exists.intro; refine ⟨fun w1 hb1 => ?_, ?_⟩; (focus ((have hb1 := zH hb1; go_simp); (try (go_bits; try go_simp)); (try (rw [if_pos (by omega)]; try go_simp)); (first | done | (with_reducible rfl) | exact rfl)))
              simp only [Act.put, zzT, zzO, zzS]
              refine WT_yes 9 rfl (by kernel_rfl) (fun _ _ _ _ _ h => h) (by rfl) ?_; apply Exists.intro; refine ⟨fun w1 hb1 => ?_, ?_⟩; (focus ((have hb1 := zH hb1; go_simp); (try (go_bits; try go_simp)); (try (rw [if_pos (by omega)]; try go_simp)); (first | done | (with_reducible rfl) | exact rfl)))
              simp only [Act.put, zzT, zzO, zzS]
              refine WT_one 11 rfl (by kernel_rfl) ?_
              unfold stepT
              obtain ⟨-, kx, fx⟩ := KBN.out
              go_wp2_with fail
              clear kx fx
              obtain ⟨u3, hu⟩ : ∃ u, (u2.setCell ⟨BN, 0, none⟩ (.int .i64 t1)).setCell ⟨BN, 1, none⟩ (.bool t2) = u := ⟨_, rfl⟩
              have hb : Below wu.heap.size u2 u3 := by rw [← hu]; exact ((Below.refl _ _).setCell (p := ⟨BN, 0, none⟩) BNN.out _).setCell (p := ⟨BN, 1, none⟩) BNN.out _
              replace KBN := zH ((KBN.out.set 0 (.int .i64 t1)).set 1 (.bool t2))
              rw [hu] at KBN ⊢
              clear hu
              replace T := zH (T.out.trans hb)
              refine ⟨hb, ?_⟩
              clear hb
              refine WT_yes 12 rfl (by kernel_rfl) (fun _ _ _ _ _ h => h) (by rfl) ?_; apply Exists.intro; refine ⟨fun w1 hb1 => ?_, ?_⟩; (focus ((have hb1 := zH hb1; go_simp); (try (go_bits; try go_simp)); (try (rw [if_pos (by omega)]; try go_simp)); (first | done | (with_reducible rfl) | exact rfl)))
              simp only [Act.put, zzT, zzO, zzS]
              refine WT_done (by kernel_rfl) ?_
              go_wp2_with fail
              go_meet
              case rel => exact ⟨BN, rfl, rfl, KBN, T⟩
          obtain ⟨wz, hwz⟩ : ∃ wo, wo = wc := ⟨_, rfl⟩
          subst hwz
          obtain ⟨B12, rfl, rfl, K12, hb⟩ := hcut
          replace hb := hb.out
          replace HRo := zH (HRo.out.to hb)
          replace HR0 := zH (HR0.out.trans (hb.mono HR0.out.size))
          clear hb HND
          cases nx with
          | none =>
            have HPN := zH (HNN.out rfl)
            clear HNN HSS
            go_wp2_with fail
            go_roundw
            case rel => exact ⟨j + 1, va, vc, false, o, rfl, rfl, by rw [← HDD.out], hjn, hvc, HPN, HRo, HR0⟩
            case measure => simp [intOf]; omega
          | some t =>
            have HPN := zH (HSS.out t rfl)
            have hte : t = (t1, t2) := HT.out
            subst hte
            have HPU := zH (fun W hR => rPut_any o (t1, t2) va vc W (by have := HLN.out; omega) hvc HSR.out hR)
            unfold PutPost at HPU
            dsimp only at HPU
            clear HNN HSS
            obtain ⟨-, k12, -⟩ := K12.out
            go_wp2_with fail
            clear k12
            refine (HPU.out _ HRo.out).mono ?_
            rintro e w9 ⟨a', c', rfl, hc', hrd, hb⟩
            replace HR0 := zH (HR0.out.trans (hb.mono HR0.out.size))
            have HRn := zH hrd
            clear hb hrd HPU
            go_wp2_with fail
            go_roundw
            case rel => exact ⟨j + 1, a', c', wh, putS o (t1, t2), rfl, rfl, by rw [← HDD.out], hjn, hc', HPN, HRn, HR0⟩
            case measure => simp [intOf]; omega
        · have HPO := zH (HOK.out j o wh HP.out (by omega) hj)
          have hle2 : r2 < r1 + (j : Int) := by omega
          clear HP HNOK HSOK HNK HOK
          obtain ⟨d, hd⟩ : ∃ d, r1 + (j : Int) = d := ⟨_, rfl⟩
          rw [hd] at hle2 ⊢
          clear hd hle
          go_wp2_with fail
          go_roundw
          case rel => exact ⟨i + 1, va, vc, wh, o, rfl, rfl, by go_num, by omega, hvc, HPO, HRo, HR0⟩
          case measure => simp [intOf]; omega
    · obtain rfl : n = i := by omega
      obtain ⟨e1, e2⟩ := HFN.out o wh HP.out
      go_wp2_with fail
      go_ret2
      refine ⟨va, vc, ?_, ?_, ?_, bThen HB.out HR0.out⟩
      · rw [e1, e2]; rfl
      · rw [e1]; exact hvc
      · rw [e1]; exact HRo.out

end Go.Proofs.YtjfedpblkejmkaaGreat

namespace Go.Proofs.YtjfedpblkejmkaaGreat
open Go.RowKit
theorem one_reads {W : World} {b : Nat} {s : OSt} (h : Blk W b #[.int .i64 s.1, .bool s.2]) : Reads W (some ⟨b, 0, none⟩) (1 * 2) (osts [s]) := by
  refine .inr ⟨b, 0, rfl, h.1, fun i hi => ?_⟩
  rw [h.2.1 (0 + i)]
  have hc : i = 0 ∨ i = 1 := by omega
  rcases hc with rfl | rfl <;> rfl
end Go.Proofs.YtjfedpblkejmkaaGreat

namespace Go.Proofs.YtjfedpblkejmkaaGreat

theorem opLE_parts {p : Plt} {s : OSt} {c : List (Int × Int)} {lim : Int} (h : opLE p s.1 c lim = 0) : opSE p s.1 = 0 ∧ (chCl c).2 = 0 ∧ unl (wthn lim 0 1000) 2 = 0 := by
  obtain ⟨h1, h2⟩ := firstE2.1 (show firstE [_, _] = 0 from h)
  obtain ⟨h3, h4⟩ := firstE2.1 (show firstE [_, _] = 0 from h1)
  exact ⟨h3, h4, h2⟩
end Go.Proofs.YtjfedpblkejmkaaGreat

namespace Go.Proofs.YtjfedpblkejmkaaGreat
open Go.RowKit

theorem nodup_leS : ∀ {l u : List OSt}, l.Nodup → (∀ x ∈ l, x ∈ u) → l.length ≤ u.length
  | [], u, _, _ => by simp
  | a :: l, u, hn, hs => by
    have hn' := List.nodup_cons.1 hn
    obtain ⟨p, q, e⟩ := List.append_of_mem (hs a (List.mem_cons_self ..))
    have h1 := nodup_leS (l := l) (u := p ++ q) hn'.2 (fun x hx => by
      have h2 := hs x (List.mem_cons_of_mem _ hx)
      rw [e, List.mem_append, List.mem_cons] at h2
      rw [List.mem_append]
      rcases h2 with h | h | h
      · exact .inl h
      · subst h; exact absurd hx hn'.1
      · exact .inr h)
    rw [e]
    simp only [List.length_cons, List.length_append] at h1 ⊢
    omega
theorem srt_nodup {l : List OSt} (h : SrtS l) : l.Nodup := List.Pairwise.imp (fun {a b} hab e => by subst e; rw [ltS_irr] at hab; cases hab) h
end Go.Proofs.YtjfedpblkejmkaaGreat

namespace Go.Proofs.YtjfedpblkejmkaaGreat
open Go.RowKit

/-- A range scaled by percents. -/
def scR (pc : Int) (r : Int × Int) : Int × Int := (flQ (pc * r.1, 100), clQ (pc * r.2, 100))
/-- A class scaled by percents; none: an end would be too great. -/
def sclQ (pc : Int) : List (Int × Int) → Option (List (Int × Int))
  | [] => some []
  | r :: l => if 50 < (scR pc r).2 then none else (sclQ pc l).map (scR pc r :: ·)
theorem sclQ_len {pc : Int} : ∀ {l m : List (Int × Int)}, sclQ pc l = some m → m.length = l.length ∧ ∀ i, i < l.length → fg m i = scR pc (fg l i) ∧ (fg m i).2 ≤ 50
  | [], m, h => by cases h; exact ⟨rfl, fun i hi => by simp at hi⟩
  | r :: l, m, h => by
    unfold sclQ at h
    by_cases c : 50 < (scR pc r).2
    · rw [if_pos c] at h; cases h
    · rw [if_neg c] at h
      cases e : sclQ pc l with
      | none => rw [e] at h; cases h
      | some k =>
        rw [e] at h
        cases h
        obtain ⟨h1, h2⟩ := sclQ_len e
        refine ⟨by rw [List.length_cons, List.length_cons, h1], fun i hi => ?_⟩
        cases i with
        | zero => exact ⟨rfl, by show (scR pc r).2 ≤ 50; omega⟩
        | succ i => exact h2 i (by rw [List.length_cons] at hi; omega)
/-- Is the class, scaled by so many percents, permitted? -/
def scG (p : Plt) (s : OSt) (lim : Int) (c : List (Int × Int)) (pc : Int) : Bool := match sclQ pc c with
  | none => false
  | some m => prmR p lim [s] m
/-- The first percents from k on, of m, with which it is not (k + m if it always is). -/
def scF (g : Int → Bool) : Nat → Nat → Nat
  | k, 0 => k
  | k, m + 1 => if g k then scF g (k + 1) m else k
end Go.Proofs.YtjfedpblkejmkaaGreat

namespace Go.Proofs.YtjfedpblkejmkaaGreat
open Go.RowKit
attribute [local go_sem] Oper.semAt_some

theorem fg_mem {l : List (Int × Int)} {k : Nat} (h : k < l.length) : fg l k = l[k] := by
  unfold fg
  rw [List.getD_eq_getElem?_getD, List.getElem?_eq_getElem h]; rfl
theorem sclQ_no {pc : Int} : ∀ {c : List (Int × Int)} {k : Nat}, k < c.length → 50 < (scR pc (fg c k)).2 → sclQ pc c = none
  | [], k, h, _ => by simp at h
  | r :: c, 0, _, h2 => by unfold sclQ; rw [if_pos (show 50 < (scR pc r).2 from h2)]
  | r :: c, k + 1, h1, h2 => by
    unfold sclQ
    split
    · rfl
    · rw [sclQ_no (c := c) (k := k) (by simpa using h1) h2]; rfl
theorem sclQ_all {pc : Int} : ∀ {c : List (Int × Int)}, (∀ k, k < c.length → (scR pc (fg c k)).2 ≤ 50) → sclQ pc c = some (c.map (scR pc))
  | [], _ => rfl
  | r :: c, h => by
    unfold sclQ
    rw [if_neg (by have := h 0 (by simp); show ¬ 50 < (scR pc r).2; have e : fg (r :: c) 0 = r := rfl; rw [e] at this; omega), sclQ_all (c := c) (fun k hk => h (k + 1) (by simpa using hk))]
    rfl
/-- What has been scaled so far. -/
def sclT (pc : Int) (c : List (Int × Int)) (k : Nat) : List (Int × Int) := (c.take k).map (scR pc)
theorem sclT_len {pc : Int} {c : List (Int × Int)} {k : Nat} (h : k ≤ c.length) : (sclT pc c k).length = k := by unfold sclT; rw [List.length_map, List.length_take]; omega
theorem sclT_succ {pc : Int} {c : List (Int × Int)} {k : Nat} (h : k < c.length) : sclT pc c (k + 1) = sclT pc c k ++ [scR pc (fg c k)] := by
  unfold sclT
  rw [List.take_succ_eq_append_getElem h, List.map_append, fg_mem h]; rfl
theorem sclT_end {pc : Int} {c : List (Int × Int)} : sclT pc c c.length = c.map (scR pc) := by unfold sclT; rw [List.take_length]
def SclPost (o : Option (List (Int × Int))) (w : World) (e : Ending) (w' : World) : Prop :=
  ∃ a' c', e = .returned (.tuple #[.slice a' (o.getD []).length c', .bool o.isSome]) ∧ (o.getD []).length ≤ c' ∧ Reads w' a' ((o.getD []).length * 2) (fracs (o.getD [])) ∧ Below w.heap.size w w'
theorem scR_val {pc : Int} (r : Int × Int) : scR pc r = (pc * r.1 / 100, (pc * r.2 + 100 - 1) / 100) := rfl
theorem mul_bd2 {a b : Int} (ha : 0 ≤ a ∧ a ≤ 200) (hb : 0 ≤ b ∧ b ≤ 50) : 0 ≤ a * b ∧ a * b ≤ 10000 :=
  ⟨Int.mul_nonneg ha.1 hb.1, Int.le_trans (Int.mul_le_mul ha.2 hb.2 hb.1 (by decide)) (by decide)⟩

set_option maxHeartbeats 6400000 in
set_option maxRecDepth 100000 in
theorem scaled_any (c : List (Int × Int)) (pc : Int) (a : Option Addr) (cap : Nat) (w : World) (hlc : c.length ≤ 20) (hc : ∀ k, k < c.length → 0 ≤ (fg c k).1 ∧ (fg c k).2 ≤ 50 ∧ (fg c k).1 ≤ (fg c k).2) (hpc : 0 ≤ pc ∧ pc ≤ 200) (hr : Reads w a (c.length * 2) (fracs c)) :
    Calls Tryz.prog 146 #[.slice a c.length cap, .int .i64 pc] w (SclPost (sclQ pc c) w) := by
  have HS := zH (fun k h1 h2 => sclQ_no (pc := pc) (c := c) (k := k) h1 h2)
  have HT := zH (fun h => sclQ_all (pc := pc) (c := c) h)
  have HV := zH (fun k hk => hc k hk)
  have HR := zH hr
  have HE := zH (sclT_end (pc := pc) (c := c))
  obtain ⟨so, hso⟩ : ∃ o, sclQ pc c = o := ⟨_, rfl⟩
  rw [hso] at HS HT ⊢
  have HLN := zH (fun k h => sclT_len (pc := pc) (c := c) (k := k) h)
  have HSU := zH (fun k h => sclT_succ (pc := pc) (c := c) (k := k) h)
  obtain ⟨n, hn⟩ : ∃ n, c.length = n := ⟨_, rfl⟩
  rw [hn] at HS HT HV HR HE HLN HSU hlc ⊢
  obtain ⟨hp0, hp1⟩ := hpc
  have HFL := zH (fun W lo (h : 0 ≤ pc * lo) (h2 : pc * lo ≤ 10000) => oFloor_any (pc * lo, 100) W ⟨h, by dsimp only; omega, by dsimp only; omega, by dsimp only; omega⟩)
  have HCE := zH (fun W lo (h : 0 ≤ pc * lo) (h2 : pc * lo ≤ 10000) => oCeil_any (pc * lo, 100) W ⟨h, by dsimp only; omega, by dsimp only; omega, by dsimp only; omega⟩)
  dsimp only at HFL HCE
  clear hr hc hso hn
  go_enter Tryz.func146, Tryz.ntmps146
  go_wp2_with fail
  go_loopw [6, 8, 9, 12] (fun s6 _ _ s12 wr => ∃ (k : Nat) (va : Option Addr) (vc : Nat), s6 = .slice va k vc ∧ s12 = .int .i64 k ∧ k ≤ n ∧ Hid (∀ j, j < k → (scR pc (fg c j)).2 ≤ 50) ∧ Hid (wr.ownsRow w.heap.size 25 2 (.slice va k vc) k (fcells (sclT pc c k))) ∧ Hid (Below w.heap.size w wr)) (fun _ _ _ s12 _ => n - (intOf s12).toNat)
  case atStart => exact ⟨0, none, 0, rfl, rfl, Nat.zero_le _, zH (by intro j h; omega), zH ⟨by simp [sclT, fcells], .inl ⟨rfl, rfl⟩⟩, zH (bSelf w)⟩
  case round =>
    obtain ⟨k, va, vc, rfl, rfl, hk, hle, HO, HR0⟩ := hrel
    by_cases hlt : k < n
    · obtain ⟨b, off, rfl, hb, hcc⟩ := (HR.out.to HR0.out).at (k := k * 2) (by omega)
      obtain ⟨⟨lo, hi⟩, hz⟩ : ∃ q, fg c k = q := ⟨_, rfl⟩
      have C0 : wr.cell? ⟨b, off + k * 2, none⟩ = some (.int .i64 lo) := by rw [hcc _ (by omega), fracs0, hz]
      have C1 : wr.cell? ⟨b, off + k * 2 + 1, none⟩ = some (.int .i64 hi) := by rw [Nat.add_assoc, hcc _ (by omega), fracs1, hz]
      obtain ⟨v0, v1, v2⟩ := HV.out k hlt
      have HSU1 := zH (HSU.out k hlt)
      have HSK := zH (fun h => HS.out k hlt h)
      rw [hz] at v0 v1 v2
      rw [hz, scR_val] at HSU1 HSK
      dsimp only at v0 v1 v2 HSU1 HSK
      obtain ⟨m0, m1⟩ := mul_bd2 (a := pc) (b := lo) ⟨hp0, hp1⟩ ⟨v0, by omega⟩
      obtain ⟨m2, m3⟩ := mul_bd2 (a := pc) (b := hi) ⟨hp0, hp1⟩ ⟨by omega, v1⟩
      have HF1 := zH (fun W => HFL.out W lo m0 m1)
      have HC1 := zH (fun W => HCE.out W hi m2 m3)
      obtain ⟨x1, hx1⟩ : ∃ x, pc * lo / 100 = x := ⟨_, rfl⟩
      obtain ⟨x2, hx2⟩ : ∃ x, (pc * hi + 100 - 1) / 100 = x := ⟨_, rfl⟩
      rw [hx1] at HF1 HSU1
      rw [hx2] at HC1 HSU1 HSK
      have HX0 : Hid (0 ≤ x2) := zH (by omega)
      have HX2 : Hid ((scR pc (fg c k)).2 = x2) := zH (by rw [hz, scR_val]; exact hx2)
      clear hcc hz HFL HCE HSU HS hx1 hx2
      have hbn : b < wr.heap.size := hb
      go_wp2_with fail
      clear C0 C1
      obtain ⟨wv, hwv⟩ : ∃ u, wr.alloc (.cells #[.int .i64 lo, .int .i64 hi] 25) = u := ⟨_, rfl⟩
      rw [hwv]
      have K8 : Hid (Blk wv wr.heap.size #[.int .i64 lo, .int .i64 hi]) := by subst hwv; exact zH (Blk.new _ _ _)
      have hbv : Below wr.heap.size wr wv := by subst hwv; exact bAlloc (bSelf _) _
      clear hwv
      replace HO := zH (owns_to HO.out hbv)
      replace HR0 := zH (bThen HR0.out hbv)
      obtain ⟨B8, hB8⟩ : ∃ u, wr.heap.size = u := ⟨_, rfl⟩
      rw [hB8] at K8 hbv hbn ⊢
      clear hbv hbn hB8 hb
      go_cut [9] from 16 to 28 (fun s9 wc => ∃ B, s9 = .pointer (some ⟨B, 0, none⟩) ∧ Hid (Blk wc B #[.int .i64 x1, .int .i64 x2]) ∧ Hid (Below wv.heap.size wv wc))
      case first =>
        refine wp_region_tree (by kernel_rfl) (fun wd hwd => ?_)
        have T := zH hwd
        clear hwd
        refine WT_yes 0 rfl (by kernel_rfl) (fun _ _ _ _ _ h => h) (by rfl) ?_; apply Exists.intro; refine ⟨fun w1 hb1 => ?_, ?_⟩; (focus ((have hb1 := zH hb1; go_simp); (try (go_bits; try go_simp)); (try (rw [if_pos (by omega)]; try go_simp)); (first | done | (with_reducible rfl) | exact rfl)))
        simp only [Act.put, zzT, zzO, zzS]
        refine WT_yes 1 rfl (by kernel_rfl) (fun _ _ _ _ _ h => h) (by rfl) ?_; apply Exists.intro; refine ⟨fun w1 hb1 => ?_, ?_⟩; (focus (((obtain ⟨-, k8, -⟩ := K8.out.to (T.out.trans hb1)); have hb1 := zH hb1; go_simp); (try (go_bits; try go_simp)); (try (rw [if_pos (by omega)]; try go_simp)); (first | done | (with_reducible rfl) | exact rfl)))
        simp only [Act.put, zzT, zzO, zzS]
        refine WT_yes 2 rfl (by kernel_rfl) (fun _ _ _ _ _ h => h) (by rfl) ?_; apply Exists.intro; refine ⟨fun w1 hb1 => ?_, ?_⟩; (focus (((obtain ⟨-, k8, -⟩ := K8.out.to (T.out.trans hb1)); have hb1 := zH hb1; go_simp); (try (go_bits; try go_simp)); (try (rw [if_pos (by omega)]; try go_simp)); (first | done | (with_reducible rfl) | exact rfl)))
        simp only [Act.put, zzT, zzO, zzS]
        refine WT_yes 3 rfl (by kernel_rfl) (fun _ _ _ _ _ h => h) (by rfl) ?_; apply Exists.intro; refine ⟨fun w1 hb1 => ?_, ?_⟩; (focus ((have hb1 := zH hb1; go_simp); (try (go_bits; try go_simp)); (try (rw [if_pos (by omega)]; try go_simp)); (first | done | (with_reducible rfl) | exact rfl)))
        simp only [Act.put, zzT, zzO, zzS]
        refine WT_yes 4 rfl (by kernel_rfl) (fun _ _ _ _ _ h => h) (by rfl) ?_; apply Exists.intro; refine ⟨fun w1 hb1 => ?_, ?_⟩; (focus ((have hb1 := zH hb1; go_simp); (try (go_bits; try go_simp)); (try (rw [if_pos (by omega)]; try go_simp)); (first | done | (with_reducible rfl) | exact rfl)))
        simp only [Act.put, zzT, zzO, zzS]
        refine WT_yes 6 rfl (by kernel_rfl) (fun _ _ _ _ _ h => h) (by rfl) ?_; apply Exists.intro; refine ⟨fun w1 hb1 => ?_, ?_⟩; (focus ((have hb1 := zH hb1; go_simp); (try (go_bits; try go_simp)); (try (rw [if_pos (by omega)]; try go_simp)); (first | done | (with_reducible rfl) | exact rfl)))
        simp only [Act.put, zzT, zzO, zzS]
        refine WT_yes 7 rfl (by kernel_rfl) (fun _ _ _ _ _ h => h) (by rfl) ?_; apply Exists.intro; refine ⟨fun w1 hb1 => ?_, ?_⟩; (focus (((obtain ⟨-, k8, -⟩ := K8.out.to (T.out.trans hb1)); have hb1 := zH hb1; go_simp); (try (go_bits; try go_simp)); (try (rw [if_pos (by omega)]; try go_simp)); (first | done | (with_reducible rfl) | exact rfl)))
        simp only [Act.put, zzT, zzO, zzS]
        refine WT_yes 8 rfl (by kernel_rfl) (fun _ _ _ _ _ h => h) (by rfl) ?_; apply Exists.intro; refine ⟨fun w1 hb1 => ?_, ?_⟩; (focus (((obtain ⟨-, k8, -⟩ := K8.out.to (T.out.trans hb1)); have hb1 := zH hb1; go_simp); (try (go_bits; try go_simp)); (try (rw [if_pos (by omega)]; try go_simp)); (first | done | (with_reducible rfl) | exact rfl)))
        simp only [Act.put, zzT, zzO, zzS]
        refine WT_yes 9 rfl (by kernel_rfl) (fun _ _ _ _ _ h => h) (by rfl) ?_; apply Exists.intro; refine ⟨fun w1 hb1 => ?_, ?_⟩; (focus ((have hb1 := zH hb1; go_simp); (try (go_bits; try go_simp)); (try (rw [if_pos (by omega)]; try go_simp)); (first | done | (with_reducible rfl) | exact rfl)))
        simp only [Act.put, zzT, zzO, zzS]
        refine WT_yes 10 rfl (by kernel_rfl) (fun _ _ _ _ _ h => h) (by rfl) ?_; apply Exists.intro; refine ⟨fun w1 hb1 => ?_, ?_⟩; (focus ((have hb1 := zH hb1; go_simp); (try (go_bits; try go_simp)); (try (rw [if_pos (by omega)]; try go_simp)); (first | done | (with_reducible rfl) | exact rfl)))
        simp only [Act.put, zzT, zzO, zzS]
        refine WT_two 5 13 rfl rfl (by kernel_rfl) ?_ ?_
        · unfold stepT
          go_wp2_with fail
          refine (HF1.out _).mono ?_
          rintro e u1 ⟨rfl, hb⟩
          have hbd := zH (hb.mono T.out.size)
          replace T := zH (bThen T.out hb)
          clear hb
          go_wp2_with fail
          refine ⟨hbd.out, ?_⟩
          clear hbd
          refine WT_two 11 13 rfl rfl (by kernel_rfl) ?_ ?_
          · unfold stepT
            go_wp2_with fail
            refine (HC1.out _).mono ?_
            rintro e u2 ⟨rfl, hb⟩
            have hbd := zH (hb.mono T.out.size)
            replace T := zH (bThen T.out hb)
            clear hb
            go_wp2_with fail
            refine ⟨hbd.out, ?_⟩
            clear hbd
            refine WT_yes 12 rfl (by kernel_rfl) (fun _ _ _ _ _ h => h) (by rfl) ?_; apply Exists.intro; refine ⟨fun w1 hb1 => ?_, ?_⟩; (focus ((have hb1 := zH hb1; go_simp); (try (go_bits; try go_simp)); (try (rw [if_pos (by omega)]; try go_simp)); (first | done | (with_reducible rfl) | exact rfl)))
            simp only [Act.put, zzT, zzO, zzS]
            refine WT_one 13 rfl (by kernel_rfl) ?_
            unfold stepT
            go_wp2_with fail
            obtain ⟨u3, hwA⟩ : ∃ wA, u2.alloc (.cells #[.int .i64 0, .int .i64 0] 25) = wA := ⟨_, rfl⟩
            rw [hwA]
            have hb : Below u2.heap.size u2 u3 := by subst hwA; exact bAlloc (bSelf _) _
            have KBN : Hid (Blk u3 u2.heap.size #[.int .i64 0, .int .i64 0]) := by subst hwA; exact Blk.new _ _ _
            clear hwA
            have BNN : Hid (wv.heap.size ≤ u2.heap.size) := zH T.out.size
            obtain ⟨BN, hBN⟩ : ∃ N, u2.heap.size = N := ⟨_, rfl⟩
            have hbd := zH (hb.mono T.out.size)
            replace T := zH (bThen T.out hb)
            clear hb
            rw [hBN] at KBN BNN  ⊢
            clear hBN
            refine ⟨hbd.out, ?_⟩
            clear hbd
            refine WT_one 14 rfl (by kernel_rfl) ?_
            unfold stepT
            obtain ⟨-, kx, fx⟩ := KBN.out
            go_wp2_with fail
            clear kx fx
            obtain ⟨u4, hu⟩ : ∃ u, (u3.setCell ⟨BN, 0, none⟩ (.int .i64 x1)).setCell ⟨BN, 1, none⟩ (.int .i64 x2) = u := ⟨_, rfl⟩
            have hb : Below wv.heap.size u3 u4 := by rw [← hu]; exact ((Below.refl _ _).setCell (p := ⟨BN, 0, none⟩) BNN.out _).setCell (p := ⟨BN, 1, none⟩) BNN.out _
            replace KBN := zH ((KBN.out.set 0 (.int .i64 x1)).set 1 (.int .i64 x2))
            rw [hu] at KBN ⊢
            clear hu
            replace T := zH (T.out.trans hb)
            refine ⟨hb, ?_⟩
            clear hb
            refine WT_done (by kernel_rfl) ?_
            go_wp2_with fail
            go_meet
            case rel => exact ⟨BN, rfl, KBN, T⟩
          · unfold stepT
            go_wp2_with fail
            obtain ⟨u2, hwA⟩ : ∃ wA, u1.alloc (.cells #[.int .i64 0, .int .i64 0] 25) = wA := ⟨_, rfl⟩
            rw [hwA]
            have hb : Below u1.heap.size u1 u2 := by subst hwA; exact bAlloc (bSelf _) _
            have KBN : Hid (Blk u2 u1.heap.size #[.int .i64 0, .int .i64 0]) := by subst hwA; exact Blk.new _ _ _
            clear hwA
            have BNN : Hid (wv.heap.size ≤ u1.heap.size) := zH T.out.size
            obtain ⟨BN, hBN⟩ : ∃ N, u1.heap.size = N := ⟨_, rfl⟩
            have hbd := zH (hb.mono T.out.size)
            replace T := zH (bThen T.out hb)
            clear hb
            rw [hBN] at KBN BNN  ⊢
            clear hBN
            refine ⟨hbd.out, ?_⟩
            clear hbd
            refine WT_one 11 rfl (by kernel_rfl) ?_
            unfold stepT
            go_wp2_with fail
            refine (HC1.out _).mono ?_
            rintro e u3 ⟨rfl, hb⟩
            replace KBN := zH (KBN.out.to hb)
            have hbd := zH (hb.mono T.out.size)
            replace T := zH (bThen T.out hb)
            clear hb
            go_wp2_with fail
            refine ⟨hbd.out, ?_⟩
            clear hbd
            refine WT_yes 12 rfl (by kernel_rfl) (fun _ _ _ _ _ h => h) (by rfl) ?_; apply Exists.intro; refine ⟨fun w1 hb1 => ?_, ?_⟩; (focus ((have hb1 := zH hb1; go_simp); (try (go_bits; try go_simp)); (try (rw [if_pos (by omega)]; try go_simp)); (first | done | (with_reducible rfl) | exact rfl)))
            simp only [Act.put, zzT, zzO, zzS]
            refine WT_one 14 rfl (by kernel_rfl) ?_
            unfold stepT
            obtain ⟨-, kx, fx⟩ := KBN.out
            go_wp2_with fail
            clear kx fx
            obtain ⟨u4, hu⟩ : ∃ u, (u3.setCell ⟨BN, 0, none⟩ (.int .i64 x1)).setCell ⟨BN, 1, none⟩ (.int .i64 x2) = u := ⟨_, rfl⟩
            have hb : Below wv.heap.size u3 u4 := by rw [← hu]; exact ((Below.refl _ _).setCell (p := ⟨BN, 0, none⟩) BNN.out _).setCell (p := ⟨BN, 1, none⟩) BNN.out _
            replace KBN := zH ((KBN.out.set 0 (.int .i64 x1)).set 1 (.int .i64 x2))
            rw [hu] at KBN ⊢
            clear hu
            replace T := zH (T.out.trans hb)
            refine ⟨hb, ?_⟩
            clear hb
            refine WT_done (by kernel_rfl) ?_
            go_wp2_with fail
            go_meet
            case rel => exact ⟨BN, rfl, KBN, T⟩
        · unfold stepT
          go_wp2_with fail
          obtain ⟨u1, hwA⟩ : ∃ wA, wd.alloc (.cells #[.int .i64 0, .int .i64 0] 25) = wA := ⟨_, rfl⟩
          rw [hwA]
          have hb : Below wd.heap.size wd u1 := by subst hwA; exact bAlloc (bSelf _) _
          have KBN : Hid (Blk u1 wd.heap.size #[.int .i64 0, .int .i64 0]) := by subst hwA; exact Blk.new _ _ _
          clear hwA
          have BNN : Hid (wv.heap.size ≤ wd.heap.size) := zH T.out.size
          obtain ⟨BN, hBN⟩ : ∃ N, wd.heap.size = N := ⟨_, rfl⟩
          have hbd := zH (hb.mono T.out.size)
          replace T := zH (bThen T.out hb)
          clear hb
          rw [hBN] at KBN BNN  ⊢
          clear hBN
          refine ⟨hbd.out, ?_⟩
          clear hbd
          refine WT_one 5 rfl (by kernel_rfl) ?_
          unfold stepT
          go_wp2_with fail
          refine (HF1.out _).mono ?_
          rintro e u2 ⟨rfl, hb⟩
          replace KBN := zH (KBN.out.to hb)
          have hbd := zH (hb.mono T.out.size)
          replace T := zH (bThen T.out hb)
          clear hb
          go_wp2_with fail
          refine ⟨hbd.out, ?_⟩
          clear hbd
          refine WT_one 11 rfl (by kernel_rfl) ?_
          unfold stepT
          go_wp2_with fail
          refine (HC1.out _).mono ?_
          rintro e u3 ⟨rfl, hb⟩
          replace KBN := zH (KBN.out.to hb)
          have hbd := zH (hb.mono T.out.size)
          replace T := zH (bThen T.out hb)
          clear hb
          go_wp2_with fail
          refine ⟨hbd.out, ?_⟩
          clear hbd
          refine WT_yes 12 rfl (by kernel_rfl) (fun _ _ _ _ _ h => h) (by rfl) ?_; apply Exists.intro; refine ⟨fun w1 hb1 => ?_, ?_⟩; (focus ((have hb1 := zH hb1; go_simp); (try (go_bits; try go_simp)); (try (rw [if_pos (by omega)]; try go_simp)); (first | done | (with_reducible rfl) | exact rfl)))
          simp only [Act.put, zzT, zzO, zzS]
          refine WT_one 14 rfl (by kernel_rfl) ?_
          unfold stepT
          obtain ⟨-, kx, fx⟩ := KBN.out
          go_wp2_with fail
          clear kx fx
          obtain ⟨u4, hu⟩ : ∃ u, (u3.setCell ⟨BN, 0, none⟩ (.int .i64 x1)).setCell ⟨BN, 1, none⟩ (.int .i64 x2) = u := ⟨_, rfl⟩
          have hb : Below wv.heap.size u3 u4 := by rw [← hu]; exact ((Below.refl _ _).setCell (p := ⟨BN, 0, none⟩) BNN.out _).setCell (p := ⟨BN, 1, none⟩) BNN.out _
          replace KBN := zH ((KBN.out.set 0 (.int .i64 x1)).set 1 (.int .i64 x2))
          rw [hu] at KBN ⊢
          clear hu
          replace T := zH (T.out.trans hb)
          refine ⟨hb, ?_⟩
          clear hb
          refine WT_done (by kernel_rfl) ?_
          go_wp2_with fail
          go_meet
          case rel => exact ⟨BN, rfl, KBN, T⟩
      obtain ⟨wz, hwz⟩ : ∃ wo, wo = wc := ⟨_, rfl⟩
      subst hwz
      obtain ⟨B9, rfl, K9, hb⟩ := hcut
      replace hb := hb.out
      replace HO := zH (owns_to HO.out hb)
      replace HR0 := zH (bThen HR0.out hb)
      clear hb K8 HF1 HC1
      obtain ⟨-, k9, -⟩ := K9.out
      by_cases hx : x2 ≤ 50
      · have hx0 : 0 ≤ x2 := HX0.out
        have hq : wthn x2 0 50 = true := wthn_iff.2 ⟨hx0, hx⟩
        have HQ := zH (fun W => by have := isFlow_any x2 W; rw [hq] at this; exact this)
        clear hq HSK
        have HNN := zH (Blk.new wz #[.int .i64 x1, .int .i64 x2] 25).news
        have HROW := zH (HO.out.alloc (.cells #[.int .i64 x1, .int .i64 x2] 25))
        have hlo := zH HO.out.lt
        have hsw : w.heap.size ≤ wz.heap.size := HR0.out.size
        go_wp2_with (first | (go_at_call 108; refine (HQ.out _).mono ?_; rintro e w' ⟨rfl, rfl⟩) | (at_builtin; go_loud (refine wpList_app w.heap.size rtRg rfl (.tmp 33) (.tmp 35) rfl _ k _ rfl HROW.out ⟨wz.heap.size, 0, none⟩ 1 1 [.int .i64 x1, .int .i64 x2] rfl rfl (by simpa using HNN.out) (onesF [(x1, x2)]) (by unfold maxLen; omega) (by omega) (by simp; omega) ?_; intro v' w7 hown' hgrow _ hwhere; obtain ⟨va', vc', rfl⟩ := ownsRow_sl hown'; have HO7 := zH hown'; have HG7 := zH hgrow; clear hown' hgrow hwhere k9)))
        have HRn : Hid (Below w.heap.size w w7) := zH (HR0.out.trans (((Below.refl _ _).alloc hsw _).grown HG7.out (by simp; omega) (fun k e => (hlo.out k e).1)))
        go_roundw
        case rel => exact ⟨k + 1, va', vc', rfl, by go_num, by omega, zH (fun j hj => by
            by_cases h : j = k
            · subst h; rw [HX2.out]; exact hx
            · exact hle.out j (by omega)), zH (by rw [HSU1.out, fcells_app]; exact HO7.out), HRn⟩
        case measure => simp [intOf]; omega
      · have hq : wthn x2 0 50 = false := by rw [← Bool.not_eq_true, wthn_iff]; omega
        have HQ := zH (fun W => by have := isFlow_any x2 W; rw [hq] at this; exact this)
        obtain rfl : so = none := HSK.out (by omega)
        clear hq
        go_wp2_with (go_at_call 108; refine (HQ.out _).mono ?_; rintro e w' ⟨rfl, rfl⟩)
        refine bodyPost_ret (results_tmp2 rfl _ _ _) rfl ?_
        exact ⟨none, 0, rfl, Nat.le_refl _, .inl rfl, HR0.out⟩
    · obtain rfl : n = k := by omega
      obtain rfl : so = some (c.map (scR pc)) := HT.out hle.out
      obtain ⟨a', cap', e, hcp, hrd, hfr⟩ := Reads.of_row (f := fracs (sclT pc c n)) HO.out (fun i hi => fcells_get _ i (by rw [HLN.out n (Nat.le_refl _)]; exact hi))
      cases e
      rw [HE.out] at hrd
      have HRD := zH hrd
      have HLL : Hid ((c.map (scR pc)).length = n) := zH (by rw [← HE.out]; exact HLN.out n (Nat.le_refl _))
      clear hrd hfr HO
      go_wp2_with fail
      refine bodyPost_ret (results_tmp2 rfl _ _ _) rfl ?_
      refine ⟨va, vc, ?_, ?_, ?_, HR0.out⟩
      · show _ = Ending.returned (.tuple #[.slice va (c.map (scR pc)).length vc, .bool true])
        rw [HLL.out]; rfl
      · show (c.map (scR pc)).length ≤ vc
        rw [HLL.out]; exact hcp
      · show Reads _ va ((c.map (scR pc)).length * 2) (fracs (c.map (scR pc)))
        rw [HLL.out]; exact HRD.out

end Go.Proofs.YtjfedpblkejmkaaGreat

namespace Go.Proofs.YtjfedpblkejmkaaGreat
open Go.RowKit
attribute [local go_sem] Oper.semAt_some

/-- A sorted set of states of a plant. -/
structure StI (p : Plt) (o : List OSt) : Prop where
  srt : SrtS o
  ok : ∀ j, j < o.length → StOk p (sg o j)
  len : o.length ≤ 402
theorem sg_memT {l : List OSt} {k : Nat} (h : k < l.length) : sg l k ∈ l := by
  unfold sg
  rw [List.getD_eq_getElem?_getD, List.getElem?_eq_getElem h]
  exact List.getElem_mem h
theorem aftR_ok {p : Plt} {r : Int × Int} {l : List OSt} {t : OSt} (h : t ∈ aftR p r l) : StOk p t := by
  obtain ⟨s, -, n, -, e⟩ := mem_aftR.1 h
  exact nxtA_ok e
theorem StI.aft1 {p : Plt} (hp : PltOk p) (r : Int × Int) (l : List OSt) : StI p (aftR p r l) := by
  refine ⟨srt_aftR, fun j hj => aftR_ok (sg_memT hj), ?_⟩
  have h1 := nodup_leS (srt_nodup (srt_aftR (p := p) (r := r) (l := l))) (fun x hx => mem_allS.2 (aftR_ok hx))
  rw [allS_len (by have := cap_pos hp; omega)] at h1
  have := cap_le hp
  omega
theorem StI.sgl {p : Plt} {s : OSt} (h : StOk p s) : StI p [s] := by
  refine ⟨List.pairwise_singleton _ _, fun j hj => ?_, by simp⟩
  obtain rfl : j = 0 := by simpa using hj
  exact h
theorem drop_fg {l : List (Int × Int)} {k : Nat} (h : k < l.length) : l.drop k = fg l k :: l.drop (k + 1) := by
  rw [List.drop_eq_getElem_cons h, fg_mem h]
theorem prm_step {p : Plt} {lim : Int} {c : List (Int × Int)} {k : Nat} {o : List OSt} (h : k < c.length) : prmR p lim o (c.drop k) = (!o.any (blwQ p lim) && (!EmpB p (fg c k) o && prmR p lim (aftR p (fg c k) o) (c.drop (k + 1)))) := by
  rw [drop_fg h]
  rfl
theorem Reads.takeR {W : World} {a : Option Addr} {m n : Nat} {f : Nat → Value} (h : Reads W a m f) (hn : n ≤ m) (g : Nat → Value) (hg : ∀ i, i < n → f i = g i) : Reads W a n g := by
  rcases h with h | ⟨b, off, e, hb, hc⟩
  · exact .inl (by omega)
  · exact .inr ⟨b, off, e, hb, fun i hi => by rw [hc i (by omega), hg i hi]⟩
set_option maxHeartbeats 6400000 in
set_option maxRecDepth 100000 in
theorem rPermitted_any (p : Plt) (s : OSt) (c : List (Int × Int)) (lim : Int) (a ac : Option Addr) (cap cc : Nat) (w : World) (hp : PltOk p) (hs : StOk p s) (hlim : 0 ≤ lim ∧ lim ≤ 1000) (hlc : c.length ≤ 20) (hc : ∀ k, k < c.length → 0 ≤ (fg c k).1 ∧ (fg c k).2 ≤ 50) (hr : Reads w a (p.pts.length * 2) (fracs p.pts)) (hrc : Reads w ac (c.length * 2) (fracs c)) :
    Calls Tryz.prog 77 #[.agg (plC p a cap), .agg #[.int .i64 s.1, .bool s.2], .slice ac c.length cc, .int .i64 lim] w fun e w' => e = .returned (.bool (prmR p lim [s] c)) ∧ Below w.heap.size w w' := by
  have HAF := zH (fun W k (hk : k < c.length) (o : List OSt) (ho : StI p o) al cl (hb : Below w.heap.size w W) h => rAfter_any p (fg c k) o a al cap cl W hp ⟨(hc k hk).1, (hc k hk).2⟩ ho.ok (by have := ho.len; omega) (hr.to hb) h)
  have HST := zH (fun k (hk : k < c.length) (o : List OSt) => prm_step (p := p) (lim := lim) (o := o) hk)
  have HNX := zH (fun k (o : List OSt) => StI.aft1 hp (fg c k) o)
  have HS1 := zH (StI.sgl hs)
  have HEN : Hid (∀ o, prmR p lim o (c.drop c.length) = !o.any (blwQ p lim)) := zH (fun o => by rw [List.drop_length]; rfl)
  have HYES : Hid (∀ (o : List OSt) k j, j < o.length → blwQ p lim (sg o j) = true → prmR p lim o (c.drop k) = false) := zH (fun o k j hj hb => by
    have ha : o.any (blwQ p lim) = true := List.any_eq_true.2 ⟨_, sg_memT hj, hb⟩
    cases hd : c.drop k with
    | nil => unfold prmR; rw [ha]; rfl
    | cons r rs => unfold prmR; rw [ha]; rfl)
  have HNO : Hid (∀ (o : List OSt), (∀ j, j < o.length → blwQ p lim (sg o j) = false) → o.any (blwQ p lim) = false) := zH (fun o h => by
    rw [List.any_eq_false]
    intro x hx
    obtain ⟨j, hj, e⟩ := List.getElem_of_mem hx
    have := h j hj
    unfold sg at this
    rw [List.getD_eq_getElem?_getD, List.getElem?_eq_getElem hj] at this
    rw [← e, Bool.not_eq_true]
    exact this)
  have HBL := zH (fun W (t : OSt) (ht : StOk p t) (hb : Below w.heap.size w W) => (rBelow_any p t lim a cap W hp.pts ht (by omega) (hr.to hb) : Calls Tryz.prog 43 _ _ fun e w' => e = .returned (.bool (blwQ p lim t)) ∧ Below W.heap.size W w'))
  have HRC := zH hrc
  unfold AftPost at HAF
  obtain ⟨rr, hrr⟩ : ∃ o, prmR p lim [s] c = o := ⟨_, rfl⟩
  have HS2 : Hid (prmR p lim [s] (c.drop 0) = rr) := zH hrr
  rw [hrr]
  obtain ⟨n, hn⟩ : ∃ n, c.length = n := ⟨_, rfl⟩
  rw [hn] at HAF HST HRC HEN hlc ⊢
  unfold plC at HAF HBL ⊢
  clear hr hrc hc hrr hn hp hs hlim
  obtain ⟨s1, s2⟩ := s
  dsimp only
  go_enter Tryz.func77, Tryz.ntmps77
  go_wp2_with fail
  obtain ⟨W, hW⟩ : ∃ W, ((w.alloc (.cells #[.slice a p.pts.length cap, .int .i64 p.pump, .int .i64 p.on, .int .i64 p.off] 44)).alloc (.cells #[.int .i64 s1, .bool s2] 46)).alloc (.cells #[.int .i64 s1, .bool s2] 46) = W := ⟨_, rfl⟩
  rw [hW]
  have K3 : Hid (Blk W w.heap.size #[.slice a p.pts.length cap, .int .i64 p.pump, .int .i64 p.on, .int .i64 p.off]) := by subst hW; exact zH (((Blk.new _ _ _).alloc _).alloc _)
  have K5 : Hid (Reads W (some ⟨w.heap.size + 1 + 1, 0, none⟩) (1 * 2) (osts [(s1, s2)])) := by subst hW; exact zH (one_reads (s := (s1, s2)) (Blk.newAt _ _ _ (by simp)))
  have HB : Hid (Below w.heap.size w W) := by subst hW; exact zH (bAlloc (bAlloc (bAlloc (bSelf w) _) _) _)
  clear hW
  go_loopw [9, 10, 11, 12] (fun s9 _ s11 _ wr => ∃ (k : Nat) (va : Option Addr) (vc : Nat) (o : List OSt), s9 = .slice va o.length vc ∧ s11 = .int .i64 k ∧ k ≤ n ∧ o.length ≤ vc ∧ Hid (StI p o) ∧ Hid (prmR p lim o (c.drop k) = rr) ∧ Hid (Reads wr va (o.length * 2) (osts o)) ∧ Hid (Below W.heap.size W wr)) (fun _ _ s11 _ _ => n + 1 - (intOf s11).toNat)
  case atStart => exact ⟨0, some ⟨w.heap.size + 1 + 1, 0, none⟩, 1, [(s1, s2)], rfl, rfl, Nat.zero_le _, Nat.le_refl _, HS1, HS2, K5, zH (bSelf W)⟩
  case round =>
    obtain ⟨k, va, vc, o, rfl, rfl, hk, hvc, HI, HQ, HO, HR0⟩ := hrel
    obtain ⟨w2, hw2⟩ : ∃ wv, wv = wr := ⟨_, rfl⟩
    subst hw2
    have hol := HI.out.len
    have HYK := zH (fun j hj hb => HQ.out.symm.trans (HYES.out o k j hj hb))
    have HNK := zH (fun h => HNO.out o h)
    have HOK := zH (fun j hj => HI.out.ok j hj)
    have HAK := zH (fun W (hk : k < n) al cl hb h => HAF.out W k hk o HI.out al cl hb h)
    obtain ⟨no, hno⟩ : ∃ n, o.length = n := ⟨_, rfl⟩
    rw [hno] at HYK HNK HOK HAK HO hvc hol ⊢
    clear hno HYES HNO HAF HI
    go_wp2_with fail
    go_loopw [12] (fun s12 wr => ∃ j : Nat, s12 = .int .i64 j ∧ j ≤ no ∧ Hid (∀ i, i < j → blwQ p lim (sg o i) = false) ∧ Hid (Below w2.heap.size w2 wr)) (fun s12 _ => no - (intOf s12).toNat)
    case atStart => exact ⟨0, rfl, Nat.zero_le _, zH (by intro i h; omega), zH (bSelf w2)⟩
    case round =>
      obtain ⟨j, rfl, hj, hno2, HR1⟩ := hrel
      by_cases hlt : j < no
      · obtain ⟨b, off, rfl, hb, hcc⟩ := (HO.out.to HR1.out).at (k := j * 2) (by omega)
        obtain ⟨⟨t1, t2⟩, hz⟩ : ∃ q, sg o j = q := ⟨_, rfl⟩
        obtain ⟨wv, hwv⟩ : ∃ wv, wv = wr := ⟨_, rfl⟩
        subst hwv
        have C0 : Hid (wv.cell? ⟨b, off + j * 2, none⟩ = some (.int .i64 t1)) := zH (by rw [hcc _ (by omega), osts0, hz])
        have C1 : Hid (wv.cell? ⟨b, off + j * 2 + 1, none⟩ = some (.bool t2)) := zH (by rw [Nat.add_assoc, hcc _ (by omega), osts1, hz])
        have HOJ := HOK.out j hlt
        have HYJ := zH (fun hb => HYK.out j hlt hb)
        rw [hz] at HOJ HYJ
        have HBJ := zH (fun W hb => HBL.out W (t1, t2) HOJ hb)
        dsimp only at HBJ
        obtain ⟨bb, hbb⟩ : ∃ b, lessQ (prQ p.pts t1) (lim, 1) = b := ⟨_, rfl⟩
        have HBB : Hid (blwQ p lim (sg o j) = bb) := zH (by rw [hz]; exact hbb)
        rw [show blwQ p lim (t1, t2) = bb from hbb] at HYJ
        rw [hbb] at HBJ
        have K3v := zH ((K3.out.to HR0.out).to HR1.out)
        have HBv := zH (bThen (bThen HB.out HR0.out) HR1.out)
        clear hcc hz hbb HOJ HBL HYK HOK
        go_wp2_with fail
        refine wp_region_quiet_all (fun w' => Below (World.heap wv).size (wv) w') (by kernel_rfl) (by kernel_rfl) (Below.refl _ _).drew ?_
        refine WQ.out ?_
        repeat (first | (refine WQ_no (by rfl) ?_; (simp only [Act.put, zzT, zzO, zzS])) | (refine WQ_yes (by rfl) ?_; apply Exists.intro; refine ⟨fun w1 hb1 => ?_, ?_⟩; (focus (((have c0 := (hb1.cell (p := ⟨b, off + j * 2, none⟩) hb).trans C0.out; have c1 := (hb1.cell (p := ⟨b, off + j * 2 + 1, none⟩) hb).trans C1.out; obtain ⟨-, k3, -⟩ := K3v.out.to hb1); have hb1 := zH hb1; go_simp); (try (go_bits; try go_simp)); (try (rw [if_pos (by omega)]; try go_simp)); (first | done | ((go_at_call 43; refine (HBJ.out _ (bThen HBv.out hb1.out)).mono ?_; rintro e w' ⟨rfl, hb⟩; exact ⟨rfl, bThen hb1.out hb⟩)) | (with_reducible rfl) | exact rfl))); (simp only [Act.put, zzT, zzO, zzS])))
        refine WQ_nil ?_
        intro w1 hb1
        replace HR1 := zH (bThen HR1.out hb1)
        clear hb1 HBJ HBv K3v C0 C1
        cases bb
        · go_wp2_with fail
          go_roundw
          case rel =>
            refine ⟨j + 1, by go_num, by omega, zH (fun i hi => ?_), HR1⟩
            by_cases h : i = j
            · subst h; exact HBB.out
            · exact hno2.out i (by omega)
          case measure => simp [intOf]; omega
        · obtain rfl : rr = false := HYJ.out rfl
          go_wp2_with fail
          go_ret
          exact ⟨rfl, bThen (bThen HB.out HR0.out) HR1.out⟩
      · obtain rfl : j = no := by omega
        have HAN := zH (HNK.out hno2.out)
        clear HNK hno2 HYK HOK HBL
        replace HR0 := zH (bThen HR0.out HR1.out)
        replace HO := zH (HO.out.to HR1.out)
        clear HR1
        by_cases hkn : k < n
        · have hne : ¬ (k : Int) = (n : Int) := by omega
          obtain ⟨b, off, rfl, hb, hcc⟩ := (((HRC.out.to HB.out).to HR0.out)).at (k := k * 2) (by omega)
          obtain ⟨⟨lo, hi⟩, hz⟩ : ∃ q, fg c k = q := ⟨_, rfl⟩
          obtain ⟨wv, hwv⟩ : ∃ wv, wv = wr := ⟨_, rfl⟩
          subst hwv
          have C0 : Hid (wv.cell? ⟨b, off + k * 2, none⟩ = some (.int .i64 lo)) := zH (by rw [hcc _ (by omega), fracs0, hz])
          have C1 : Hid (wv.cell? ⟨b, off + k * 2 + 1, none⟩ = some (.int .i64 hi)) := zH (by rw [Nat.add_assoc, hcc _ (by omega), fracs1, hz])
          have HA1 := zH (fun W al cl hb h => HAK.out W hkn al cl hb h)
          have HT1 := zH (HST.out k hkn o)
          have HN1 := zH (HNX.out k o)
          rw [hz] at HA1 HT1 HN1
          dsimp only at HA1
          obtain ⟨eb, heb⟩ : ∃ b, EmpB p (lo, hi) o = b := ⟨_, rfl⟩
          obtain ⟨M, hM⟩ : ∃ M, aftR p (lo, hi) o = M := ⟨_, rfl⟩
          rw [heb, hM] at HA1 HT1
          rw [hM] at HN1
          rw [HQ.out, HAN.out] at HT1
          have K3v := zH (K3.out.to HR0.out)
          have HBv := zH (bThen HB.out HR0.out)
          have HOv := zH HO.out
          clear hcc hz HAK HST HNX heb hM HQ HO HAN
          go_wp2_with fail
          refine wp_region_tree (by kernel_rfl) (fun wd hwd => ?_)
          have T := zH hwd
          clear hwd
          refine WT_yes 0 rfl (by kernel_rfl) (fun _ _ _ _ _ h => h) (by rfl) ?_; apply Exists.intro; refine ⟨fun w1 hb1 => ?_, ?_⟩; (focus (((obtain ⟨-, k3, -⟩ := K3v.out.to (T.out.trans hb1)); have hb1 := zH hb1; go_simp); (try (go_bits; try go_simp)); (try (rw [if_pos (by omega)]; try go_simp)); (first | done | (with_reducible rfl) | exact rfl)))
          simp only [Act.put, zzT, zzO, zzS]
          refine WT_yes 1 rfl (by kernel_rfl) (fun _ _ _ _ _ h => h) (by rfl) ?_; apply Exists.intro; refine ⟨fun w1 hb1 => ?_, ?_⟩; (focus ((have hb1 := zH hb1; go_simp); (try (go_bits; try go_simp)); (try (rw [if_pos (by omega)]; try go_simp)); (first | done | (with_reducible rfl) | exact rfl)))
          simp only [Act.put, zzT, zzO, zzS]
          refine WT_yes 2 rfl (by kernel_rfl) (fun _ _ _ _ _ h => h) (by rfl) ?_; apply Exists.intro; refine ⟨fun w1 hb1 => ?_, ?_⟩; (focus ((have hb1 := zH hb1; go_simp); (try (go_bits; try go_simp)); (try (rw [if_pos (by omega)]; try go_simp)); (first | done | (with_reducible rfl) | exact rfl)))
          simp only [Act.put, zzT, zzO, zzS]
          refine WT_yes 3 rfl (by kernel_rfl) (fun _ _ _ _ _ h => h) (by rfl) ?_; apply Exists.intro; refine ⟨fun w1 hb1 => ?_, ?_⟩; (focus ((have hb1 := zH hb1; go_simp); (try (go_bits; try go_simp)); (try (rw [if_pos (by omega)]; try go_simp)); (first | done | (with_reducible rfl) | exact rfl)))
          simp only [Act.put, zzT, zzO, zzS]
          refine WT_yes 4 rfl (by kernel_rfl) (fun _ _ _ _ _ h => h) (by rfl) ?_; apply Exists.intro; refine ⟨fun w1 hb1 => ?_, ?_⟩; (focus (((have c0 := ((T.out.trans hb1).cell (p := ⟨b, off + k * 2, none⟩) hb).trans C0.out; have c1 := ((T.out.trans hb1).cell (p := ⟨b, off + k * 2 + 1, none⟩) hb).trans C1.out); have hb1 := zH hb1; go_simp); (try (go_bits; try go_simp)); (try (rw [if_pos (by omega)]; try go_simp)); (first | done | (with_reducible rfl) | exact rfl)))
          simp only [Act.put, zzT, zzO, zzS]
          refine WT_yes 5 rfl (by kernel_rfl) (fun _ _ _ _ _ h => h) (by rfl) ?_; apply Exists.intro; refine ⟨fun w1 hb1 => ?_, ?_⟩; (focus (((have c0 := ((T.out.trans hb1).cell (p := ⟨b, off + k * 2, none⟩) hb).trans C0.out; have c1 := ((T.out.trans hb1).cell (p := ⟨b, off + k * 2 + 1, none⟩) hb).trans C1.out); have hb1 := zH hb1; go_simp); (try (go_bits; try go_simp)); (try (rw [if_pos (by omega)]; try go_simp)); (first | done | (with_reducible rfl) | exact rfl)))
          simp only [Act.put, zzT, zzO, zzS]
          refine WT_one 6 rfl (by kernel_rfl) ?_
          unfold stepT
          go_wp2_with fail
          refine (HA1.out _ _ _ (bThen HBv.out T.out) (HOv.out.to T.out)).mono ?_
          rintro e u1 ⟨aM, cM, rfl, hcM, hrM, hb2⟩
          have HRM := zH hrM
          have hbd := zH (hb2.mono T.out.size)
          replace T := zH (bThen T.out hb2)
          clear hb2 hrM HA1 HOv K3v HBv
          go_wp2_with fail
          refine ⟨hbd.out, ?_⟩
          clear hbd
          refine WT_yes 7 rfl (by kernel_rfl) (fun _ _ _ _ _ h => h) (by rfl) ?_; apply Exists.intro; refine ⟨fun w1 hb1 => ?_, ?_⟩; (focus ((have hb1 := zH hb1; go_simp); (try (go_bits; try go_simp)); (try (rw [if_pos (by omega)]; try go_simp)); (first | done | (with_reducible rfl) | exact rfl)))
          simp only [Act.put, zzT, zzO, zzS]
          refine WT_yes 8 rfl (by kernel_rfl) (fun _ _ _ _ _ h => h) (by rfl) ?_; apply Exists.intro; refine ⟨fun w1 hb1 => ?_, ?_⟩; (focus ((have hb1 := zH hb1; go_simp); (try (go_bits; try go_simp)); (try (rw [if_pos (by omega)]; try go_simp)); (first | done | (with_reducible rfl) | exact rfl)))
          simp only [Act.put, zzT, zzO, zzS]
          refine WT_yes 9 rfl (by kernel_rfl) (fun _ _ _ _ _ h => h) (by rfl) ?_; apply Exists.intro; refine ⟨fun w1 hb1 => ?_, ?_⟩; (focus ((have hb1 := zH hb1; go_simp); (try (go_bits; try go_simp)); (try (rw [if_pos (by omega)]; try go_simp)); (first | done | (with_reducible rfl) | exact rfl)))
          simp only [Act.put, zzT, zzO, zzS]
          refine WT_yes 10 rfl (by kernel_rfl) (fun _ _ _ _ _ h => h) (by rfl) ?_; apply Exists.intro; refine ⟨fun w1 hb1 => ?_, ?_⟩; (focus ((have hb1 := zH hb1; go_simp); (try (go_bits; try go_simp)); (try (rw [if_pos (by omega)]; try go_simp)); (first | done | (with_reducible rfl) | exact rfl)))
          simp only [Act.put, zzT, zzO, zzS]
          refine WT_yes 11 rfl (by kernel_rfl) (fun _ _ _ _ _ h => h) (by rfl) ?_; apply Exists.intro; refine ⟨fun w1 hb1 => ?_, ?_⟩; (focus ((have hb1 := zH hb1; go_simp); (try (go_bits; try go_simp)); (try (rw [if_pos (by omega)]; try go_simp)); (first | done | (with_reducible rfl) | exact rfl)))
          simp only [Act.put, zzT, zzO, zzS]
          refine WT_done (by kernel_rfl) ?_
          replace HR0 := zH (bThen HR0.out T.out)
          clear T C0 C1
          cases eb
          · have HT2 := zH HT1.out.symm
            clear HT1
            go_wp2_with fail
            go_roundw
            case rel => exact ⟨k + 1, aM, cM, M, rfl, by go_num, by omega, hcM, HN1, HT2, HRM, HR0⟩
            case measure => simp [intOf]; omega
          · obtain rfl : rr = false := HT1.out
            go_wp2_with fail
            go_ret
            exact ⟨rfl, bThen HB.out HR0.out⟩
        · obtain rfl : k = n := by omega
          obtain rfl : rr = true := by rw [← HQ.out, HEN.out o, HAN.out]; rfl
          go_wp2_with fail
          go_ret
          exact ⟨rfl, bThen HB.out HR0.out⟩

        end Go.Proofs.YtjfedpblkejmkaaGreat

namespace Go.Proofs.YtjfedpblkejmkaaGreat
open Go.RowKit
attribute [local go_sem] Oper.semAt_some

theorem len_takeN {c : List (Int × Int)} {L : Nat} (h : L ≤ c.length) : (c.take L).length = L := by rw [List.length_take]; omega
theorem fg_takeN {c : List (Int × Int)} {L i : Nat} (h : i < L) : fg (c.take L) i = fg c i := by
  unfold fg
  rw [List.getD_eq_getElem?_getD, List.getD_eq_getElem?_getD, List.getElem?_take, if_pos h]
theorem drop_takeN {c : List (Int × Int)} {L i : Nat} (hL : L ≤ c.length) (h : i < L) : (c.take L).drop i = fg c i :: (c.take L).drop (i + 1) := by
  rw [drop_fg (by rw [len_takeN hL]; exact h), fg_takeN h]
/-- Between ticks: the demands so far, and the state now. -/
structure WiS (p : Plt) (lim : Int) (c : List (Int × Int)) (L : Nat) (wt : List Int) (i : Nat) (now : OSt) (out : List Int) : Prop where
  wiq : out ++ witG p lim now ((c.take L).drop i) = wt
  wst : StOk p now
  wln : out.length ≤ i
theorem WiS.nope {p : Plt} {lim : Int} {c : List (Int × Int)} {L : Nat} {wt : List Int} {i : Nat} {now : OSt} {out : List Int} (h : WiS p lim c L wt i now out) (hL : L ≤ c.length) (hi : i < L)
    (hf : (rngL (fg c i)).find? (stlB p lim now ((c.take L).drop (i + 1))) = none) : WiS p lim c L wt (i + 1) now out := by
  refine ⟨?_, h.wst, by have := h.wln; omega⟩
  have := h.wiq
  rw [drop_takeN hL hi] at this
  unfold witG at this
  rw [hf] at this
  exact this
theorem WiS.take1 {p : Plt} {lim : Int} {c : List (Int × Int)} {L : Nat} {wt : List Int} {i : Nat} {now : OSt} {out : List Int} (h : WiS p lim c L wt i now out) (hp : PltOk p) (hL : L ≤ c.length) (hi : i < L) {n : Int}
    (hf : (rngL (fg c i)).find? (stlB p lim now ((c.take L).drop (i + 1))) = some n) : WiS p lim c L wt (i + 1) ((nxtA p now n).getD (0, false)) (out ++ [n]) := by
  refine ⟨?_, ?_, by have := h.wln; rw [List.length_append, List.length_singleton]; omega⟩
  · have := h.wiq
    rw [drop_takeN hL hi] at this
    unfold witG at this
    rw [hf] at this
    rw [List.append_assoc]
    exact this
  · cases e : nxtA p now n with
    | none => exact ⟨Int.le_refl _, by have := cap_pos hp; show (0 : Int) ≤ _; omega⟩
    | some t => exact nxtA_ok e
theorem WiS.done1 {p : Plt} {lim : Int} {c : List (Int × Int)} {L : Nat} {wt : List Int} {now : OSt} {out : List Int} (h : WiS p lim c L wt L now out) (hL : L ≤ c.length) : out = wt := by
  have := h.wiq
  rw [List.drop_of_length_le (by rw [len_takeN hL]; exact Nat.le_refl _)] at this
  unfold witG at this
  rw [List.append_nil] at this
  exact this
theorem fnd_no {f : Int → Bool} {r : Int × Int} {j : Nat} (h : (rngL r).find? f = ((rngL r).drop j).find? f) (hj : r.1 + (j : Int) ≤ r.2) (hf : f (r.1 + (j : Int)) = false) : (rngL r).find? f = ((rngL r).drop (j + 1)).find? f := by
  rw [h, rngL_drop hj, List.find?_cons_of_neg (by rw [hf]; decide)]
theorem fnd_yes {f : Int → Bool} {r : Int × Int} {j : Nat} (h : (rngL r).find? f = ((rngL r).drop j).find? f) (hj : r.1 + (j : Int) ≤ r.2) (hf : f (r.1 + (j : Int)) = true) : (rngL r).find? f = some (r.1 + (j : Int)) := by
  rw [h, rngL_drop hj, List.find?_cons_of_pos hf]
theorem fnd_end {f : Int → Bool} {r : Int × Int} {j : Nat} (h : (rngL r).find? f = ((rngL r).drop j).find? f) (hj : r.2 < r.1 + (j : Int)) : (rngL r).find? f = none := by
  rw [h, rngL_end hj]; rfl
def WirPost (wt : List Int) (w : World) (e : Ending) (w' : World) : Prop :=
  ∃ a' c', e = .returned (.slice a' wt.length c') ∧ wt.length ≤ c' ∧ Reads w' a' wt.length (ints wt) ∧ Below w.heap.size w w'
set_option maxHeartbeats 12800000 in
set_option maxRecDepth 100000 in
theorem rWitness_any (p : Plt) (s : OSt) (c : List (Int × Int)) (lim : Int) (wt : List Int) (a ac : Option Addr) (cap cc : Nat) (w : World) (hp : PltOk p) (hs : StOk p s) (hlim : 0 ≤ lim ∧ lim ≤ 1000) (hlc : c.length ≤ 20) (hcc : c.length ≤ cc) (hc : ∀ k, k < c.length → 0 ≤ (fg c k).1 ∧ (fg c k).2 ≤ 50 ∧ (fg c k).1 ≤ (fg c k).2) (hwt : witA p lim (tks p c [(s, [])]) = some wt) (hr : Reads w a (p.pts.length * 2) (fracs p.pts)) (hrc : Reads w ac (c.length * 2) (fracs c)) :
    Calls Tryz.prog 79 #[.agg (plC p a cap), .agg #[.int .i64 s.1, .bool s.2], .slice ac c.length cc, .int .i64 lim] w (WirPost wt w) := by
  obtain ⟨hwl, hw1, hw2, hw3⟩ := wit_ref hwt
  obtain ⟨L, hL⟩ : ∃ L, wt.length = L := ⟨_, rfl⟩
  rw [hL] at hwl hw1 hw2 hw3
  have HP1 := zH (fun W k (hk : k ≤ c.length) (hb : Below w.heap.size w W) => by
    have := rPermitted_any p s (c.take k) lim a ac cap cc W hp hs hlim (by rw [List.length_take]; omega) (fun j hj => by
      rw [len_takeN hk] at hj
      rw [fg_takeN hj]; exact ⟨(hc j (by omega)).1, (hc j (by omega)).2.1⟩) (hr.to hb) (by rw [len_takeN hk]; exact Reads.takeR (hrc.to hb) (by omega) _ (fun i hi => (fracs_take hi).symm))
    rw [len_takeN hk] at this
    exact this)
  have HP2 := zH (fun W i (hi : i < L) (t : OSt) (ht : StOk p t) (b off cx : Nat) (hac : ac = some ⟨b, off, none⟩) (hb : Below w.heap.size w W) => by
    have hlen : ((c.take L).drop (i + 1)).length = L - (i + 1) := by rw [List.length_drop, len_takeN hwl]
    have hrd : Reads W (if cc = i + 1 then some ⟨b, off, none⟩ else some ⟨b, off + (i + 1) * 2, none⟩) ((L - (i + 1)) * 2) (fracs ((c.take L).drop (i + 1))) := by
      by_cases hcx : cc = i + 1
      · exact .inl (by omega)
      rw [if_neg hcx]
      have h1 := hrc.to hb
      rw [hac] at h1
      have h2 := (h1.takeF hwl).dropF (n := i + 1) (by rw [len_takeN hwl]; omega)
      rw [hlen] at h2
      exact h2
    have := rPermitted_any p t ((c.take L).drop (i + 1)) lim a (if cc = i + 1 then some ⟨b, off, none⟩ else some ⟨b, off + (i + 1) * 2, none⟩) cap cx W hp ht hlim (by rw [hlen]; omega) (fun j hj => by
      rw [hlen] at hj
      have e : fg ((c.take L).drop (i + 1)) j = fg c (i + 1 + j) := by
        rw [← fg_takeN (L := L) (show i + 1 + j < L by omega)]
        unfold fg
        rw [List.getD_eq_getElem?_getD, List.getD_eq_getElem?_getD, List.getElem?_drop]
      rw [e]; exact ⟨(hc _ (by omega)).1, (hc _ (by omega)).2.1⟩) (hr.to hb) (by rw [hlen]; exact hrd)
    rw [hlen] at this
    exact this)
  have HNX := zH (fun W (t : OSt) (ht : StOk p t) d (hd : 0 ≤ d ∧ d ≤ 50) (hb : Below w.heap.size w W) => rnNext_any p t d a cap W hp ht hd (hr.to hb))
  have HNOK : Hid (∀ (s t : OSt) d, nxtA p s d = some t → StOk p t) := zH (fun s t d e => nxtA_ok e)
  have HNOP := zH (fun i now out (h : WiS p lim c L wt i now out) hi hf => h.nope hwl hi hf)
  have HTAK := zH (fun i now out n (h : WiS p lim c L wt i now out) hi hf => h.take1 (n := n) hp hwl hi hf)
  have HFIN := zH (fun now out (h : WiS p lim c L wt L now out) => h.done1 hwl)
  have HST := zH (show WiS p lim c L wt 0 s [] from ⟨hw3, hs, Nat.le_refl _⟩)
  have HCV := zH (fun k hk => hc k hk)
  have HRC := zH hrc
  have HW1 := zH hw1
  have HW2 := zH hw2
  have HL := zH hL
  obtain ⟨n, hn⟩ : ∃ n, c.length = n := ⟨_, rfl⟩
  rw [hn] at HP1 HCV HRC hlc hcc hwl ⊢
  unfold plC at HP1 HP2 HNX ⊢
  clear hr hrc hc hn hp hs hlim hw1 hw2 hw3 hwt hL
  obtain ⟨s1, s2⟩ := s
  dsimp only at HP1 HP2 ⊢
  go_enter Tryz.func79, Tryz.ntmps79
  go_wp2_with fail
  obtain ⟨W, hW⟩ : ∃ W, (w.alloc (.cells #[.slice a p.pts.length cap, .int .i64 p.pump, .int .i64 p.on, .int .i64 p.off] 44)).alloc (.cells #[.int .i64 s1, .bool s2] 46) = W := ⟨_, rfl⟩
  rw [hW]
  have K4 : Hid (Blk W w.heap.size #[.slice a p.pts.length cap, .int .i64 p.pump, .int .i64 p.on, .int .i64 p.off]) := by subst hW; exact zH ((Blk.new _ _ _).alloc _)
  have K5 : Hid (Blk W (w.heap.size + 1) #[.int .i64 s1, .bool s2]) := by subst hW; exact zH (Blk.newAt _ _ _ (by simp))
  have HB : Hid (Below w.heap.size w W) := by subst hW; exact zH (bAlloc (bAlloc (bSelf w) _) _)
  obtain ⟨B4, hB4⟩ : ∃ u, w.heap.size = u := ⟨_, rfl⟩
  have HBW : Hid (∀ W, Below B4 w W → Below w.heap.size w W) := zH (fun W h => by rw [hB4]; exact h)
  rw [hB4] at K4 K5 ⊢
  clear hW hB4
  go_loopw [9] (fun s9 wr => ∃ k : Nat, s9 = .int .i64 k ∧ k ≤ L ∧ Hid (Below W.heap.size W wr)) (fun s9 _ => L - (intOf s9).toNat)
  case atStart => exact ⟨0, rfl, Nat.zero_le _, zH (bSelf W)⟩
  case round =>
    obtain ⟨k, rfl, hk, HR0⟩ := hrel
    obtain ⟨wv, hwv⟩ : ∃ wv, wv = wr := ⟨_, rfl⟩
    subst hwv
    have HPK := zH (fun W hb => HP1.out W k (by omega) hb)
    have hkc : k ≤ cc := by omega
    by_cases hlt : k < L
    · have HTR := HW1.out k hlt
      rw [HTR] at HPK
      have K4v := zH (K4.out.to HR0.out)
      have K5v := zH (K5.out.to HR0.out)
      have HBv := zH (bThen HB.out HR0.out)
      clear HTR
      go_wp2_with fail
      refine wp_region_quiet_all (fun w' => Below (World.heap wv).size (wv) w') (by kernel_rfl) (by kernel_rfl) (Below.refl _ _).drew ?_
      refine WQ.out ?_
      repeat (first | (refine WQ_no (by rfl) ?_; (simp only [Act.put, zzT, zzO, zzS])) | (refine WQ_yes (by rfl) ?_; apply Exists.intro; refine ⟨fun w1 hb1 => ?_, ?_⟩; (focus (((obtain ⟨-, k4, -⟩ := K4v.out.to hb1; obtain ⟨-, k5, -⟩ := K5v.out.to hb1); have hb1 := zH hb1; go_simp); (try (go_bits; try go_simp)); (try (rw [if_pos (by omega)]; try go_simp)); (first | done | ((go_at_call 77; refine (HPK.out _ (bThen HBv.out hb1.out)).mono ?_; rintro e w' ⟨rfl, hb⟩; exact ⟨rfl, bThen hb1.out hb⟩)) | (with_reducible rfl) | exact rfl))); (simp only [Act.put, zzT, zzO, zzS])))
      refine WQ_nil ?_
      intro w1 hb1
      go_wp2_with fail
      go_roundw
      case rel => exact ⟨k + 1, by go_num, by omega, zH (bThen HR0.out hb1)⟩
      case measure => simp [intOf]; omega
    · obtain rfl : k = L := by omega
      rw [HW2.out] at HPK
      have K4v := zH (K4.out.to HR0.out)
      have K5v := zH (K5.out.to HR0.out)
      have HBv := zH (bThen HB.out HR0.out)
      clear HP1 HW1 HW2
      go_wp2_with fail
      refine wp_region_quiet_all (fun w' => Below (World.heap wv).size (wv) w') (by kernel_rfl) (by kernel_rfl) (Below.refl _ _).drew ?_
      refine WQ.out ?_
      repeat (first | (refine WQ_no (by rfl) ?_; (simp only [Act.put, zzT, zzO, zzS])) | (refine WQ_yes (by rfl) ?_; apply Exists.intro; refine ⟨fun w1 hb1 => ?_, ?_⟩; (focus (((obtain ⟨-, k4, -⟩ := K4v.out.to hb1; obtain ⟨-, k5, -⟩ := K5v.out.to hb1); have hb1 := zH hb1; go_simp); (try (go_bits; try go_simp)); (try (rw [if_pos (by omega)]; try go_simp)); (first | done | ((go_at_call 77; refine (HPK.out _ (bThen HBv.out hb1.out)).mono ?_; rintro e w' ⟨rfl, hb⟩; exact ⟨rfl, bThen hb1.out hb⟩)) | (with_reducible rfl) | exact rfl))); (simp only [Act.put, zzT, zzO, zzS])))
      refine WQ_nil ?_
      intro w1 hb1
      replace K4 := zH (K4v.out.to hb1)
      replace K5 := zH (K5v.out.to hb1)
      replace HB := zH (bThen HBv.out hb1)
      clear hb1 HR0 K4v K5v HBv HPK
      obtain ⟨w2, hw2⟩ : ∃ wv, wv = w1 := ⟨_, rfl⟩
      subst hw2
      obtain ⟨-, k5, -⟩ := K5.out
      go_wp2_with fail
      clear k5
      obtain ⟨w3, hw3⟩ : ∃ u, w2.alloc (.cells #[.int .i64 s1, .bool s2] 46) = u := ⟨_, rfl⟩
      rw [hw3]
      have KN : Hid (Blk w3 w2.heap.size #[.int .i64 s1, .bool s2]) := by subst hw3; exact zH (Blk.new _ _ _)
      have HR3 : Hid (Below w2.heap.size w2 w3) := by subst hw3; exact zH (bAlloc (bSelf _) _)
      obtain ⟨B11, hB⟩ : ∃ u, w2.heap.size = u := ⟨_, rfl⟩
      have H11 : Hid (B11 < w3.heap.size) := zH (by rw [← hB]; subst hw3; simp)
      have HB2 : Hid (∀ W, Below B11 w2 W → Below w2.heap.size w2 W) := zH (fun W h => by rw [hB]; exact h)
      rw [hB] at KN HR3 ⊢
      clear hw3 hB K5
      obtain ⟨N3, hN3⟩ : ∃ u, w3.heap.size = u := ⟨_, rfl⟩
      rw [hN3] at H11
      go_loopw [10, 12, 13, 14, 15] (fun s10 s12 _ _ _ wr => ∃ (i : Nat) (va : Option Addr) (vc : Nat) (now : OSt) (out : List Int), s10 = .slice va out.length vc ∧ s12 = .int .i64 i ∧ i ≤ k ∧ Hid (WiS p lim c k wt i now out) ∧ Hid (Blk wr B11 #[.int .i64 now.1, .bool now.2]) ∧ Hid (wr.ownsRow N3 3 1 (.slice va out.length vc) out.length (out.map fun z => .int .i64 z)) ∧ N3 ≤ wr.heap.size ∧ Hid (Below B11 w2 wr)) (fun _ s12 _ _ _ _ => k - (intOf s12).toNat)
      case atStart => exact ⟨0, none, 0, (s1, s2), [], rfl, rfl, Nat.zero_le _, HST, KN, zH ⟨by simp, .inl ⟨rfl, rfl⟩⟩, by rw [hN3]; exact Nat.le_refl _, HR3⟩
      case round =>
        clear KN HR3 hN3 HST
        obtain ⟨i, va, vc, ⟨x1, x2⟩, out, rfl, rfl, hi, HI, KN, HO, hN, HR3⟩ := hrel
        dsimp only at KN
        have hol := HI.out.wln
        by_cases hik : i < k
        · obtain ⟨bc, oc, rfl, -, -⟩ := HRC.out.at (k := i * 2) (by omega)
          have HB3 := zH (bThen HB.out (HB2.out _ HR3.out))
          obtain ⟨b', off', e', hb, hcc'⟩ := (HRC.out.to HB3.out).at (k := i * 2) (by omega)
          cases e'
          obtain ⟨⟨lo, hi'⟩, hz⟩ : ∃ q, fg c i = q := ⟨_, rfl⟩
          obtain ⟨wv, hwv⟩ : ∃ wv, wv = wr := ⟨_, rfl⟩
          subst hwv
          have C0 : Hid (wv.cell? ⟨bc, oc + i * 2, none⟩ = some (.int .i64 lo)) := zH (by rw [hcc' _ (by omega), fracs0, hz])
          have C1 : Hid (wv.cell? ⟨bc, oc + i * 2 + 1, none⟩ = some (.int .i64 hi')) := zH (by rw [Nat.add_assoc, hcc' _ (by omega), fracs1, hz])
          obtain ⟨v0, v1, v2⟩ := HCV.out i (by omega)
          have HNI := zH (fun hf => HNOP.out i (x1, x2) out HI.out hik hf)
          have HTI := zH (fun n hf => HTAK.out i (x1, x2) out n HI.out hik hf)
          have HPI := zH (fun W t ht cx hb => HP2.out W i hik t ht bc oc cx rfl hb)
          have HXI := zH (fun W d hd hb => HNX.out W (x1, x2) HI.out.wst d hd hb)
          rw [hz] at v0 v1 v2 HNI HTI
          dsimp only at v0 v1 v2 HXI
          obtain ⟨rs, hrs⟩ : ∃ r, (c.take k).drop (i + 1) = r := ⟨_, rfl⟩
          rw [hrs] at HNI HTI HPI
          obtain ⟨mo, hmo⟩ : ∃ r, out.length = r := ⟨_, rfl⟩
          have HMO := zH hmo
          rw [hmo] at HO hol ⊢
          have K4w := zH (K4.out.to (HB2.out _ HR3.out))
          clear hcc' hz hrs hmo HNOP HTAK HP2 HNX HCV HFIN HI
          have c0 := C0.out
          go_wp2_with fail
          clear c0
          go_loopw [10, 13, 14, 15] (fun s10 s13 _ _ wr => s10 = .slice va mo vc ∧ ∃ j : Nat, s13 = .int .i64 (lo + (j : Int)) ∧ j ≤ 51 ∧ Hid ((rngL (lo, hi')).find? (stlB p lim (x1, x2) rs) = ((rngL (lo, hi')).drop j).find? (stlB p lim (x1, x2) rs)) ∧ Hid (Below wv.heap.size wv wr)) (fun _ s13 _ _ _ => (hi' + 1 - intOf s13).toNat)
          case atStart => exact ⟨rfl, 0, by go_num, Nat.zero_le _, zH rfl, zH (bSelf wv)⟩
          case round =>
            obtain ⟨rfl, j, rfl, hj, hfn, HR4⟩ := hrel
            have c0 := (HR4.out.cell (p := ⟨bc, oc + i * 2, none⟩) hb).trans C0.out
            have c1 := (HR4.out.cell (p := ⟨bc, oc + i * 2 + 1, none⟩) hb).trans C1.out
            have K4x := zH (K4w.out.to HR4.out)
            have KNx := zH (KN.out.to HR4.out)
            have HBx := zH (bThen HB3.out HR4.out)
            by_cases hle : lo + (j : Int) ≤ hi'
            · have HNO := zH (fun h => fnd_no (f := stlB p lim (x1, x2) rs) hfn.out hle h)
              have HYE := zH (fun h => HTI.out _ (fnd_yes (f := stlB p lim (x1, x2) rs) hfn.out hle h))
              obtain ⟨d, hd⟩ : ∃ d, lo + (j : Int) = d := ⟨_, rfl⟩
              have hd0 : 0 ≤ d := by omega
              have hd1 : d ≤ 50 := by omega
              have HDD : Hid (d + 1 = lo + ((j + 1 : Nat) : Int)) := zH (by omega)
              have hjn : j + 1 ≤ 51 := by omega
              dsimp only at HNO HYE
              rw [hd] at HNO HYE hle ⊢
              have HX1 := zH (fun W hb => HXI.out W d ⟨hd0, hd1⟩ hb)
              have hstl : stlB p lim (x1, x2) rs d = match nxtA p (x1, x2) d with | none => true | some t => !prmR p lim [t] rs := rfl
              have HOKT := zH (fun t h => HNOK.out (x1, x2) t d h)
              rw [hstl] at HNO HYE
              obtain ⟨nx, hnx⟩ : ∃ x, nxtA p (x1, x2) d = x := ⟨_, rfl⟩
              rw [hnx] at HX1 HNO HYE HOKT
              clear hd hnx hstl hfn HXI HTI HNI
              obtain ⟨-, k4, -⟩ := K4x.out
              obtain ⟨-, kn, -⟩ := KNx.out
              go_wp2_with fail
              clear k4 kn c0 c1
              refine (HX1.out _ HBx.out).mono ?_
              rintro e w5 ⟨rfl, hb5⟩
              obtain ⟨⟨t1, t2⟩, ht⟩ : ∃ x, nx.getD (0, false) = x := ⟨_, rfl⟩
              have HT := zH ht
              rw [ht] at HYE ⊢
              dsimp only
              clear ht HX1
              go_wp2_with fail
              obtain ⟨w6, hw6⟩ : ∃ u, w5.alloc (.cells #[.int .i64 t1, .bool t2] 46) = u := ⟨_, rfl⟩
              rw [hw6]
              have K14 : Hid (Blk w6 w5.heap.size #[.int .i64 t1, .bool t2]) := by subst hw6; exact zH (Blk.new _ _ _)
              have hb6 : Below w5.heap.size w5 w6 := by subst hw6; exact bAlloc (bSelf _) _
              have HR45 := zH (bThen HR4.out hb5)
              have KNx5 := zH (KNx.out.to hb5)
              replace HR4 := zH (bThen (bThen HR4.out hb5) hb6)
              replace K4x := zH ((K4x.out.to hb5).to hb6)
              replace KNx := zH ((KNx.out.to hb5).to hb6)
              replace HBx := zH (bThen (bThen HBx.out hb5) hb6)
              have h1114 : Hid (B11 ≠ w5.heap.size) := zH (by have := KNx5.out.1; omega)
              have hNv : Hid (wv.heap.size ≤ w5.heap.size) := zH HR45.out.size
              obtain ⟨B14, hB14⟩ : ∃ u, w5.heap.size = u := ⟨_, rfl⟩
              rw [hB14] at K14 h1114 hNv ⊢
              clear hb5 hb6 hw6 hB14 KNx5 HR45
              cases nx with
              | none =>
                have HTN := zH (HYE.out rfl)
                clear HYE HNO HOKT HPI
                go_wp2_with fail
                refine wp_region_quiet_all (fun w' => Below (World.heap w6).size (w6) w') (by kernel_rfl) (by kernel_rfl) (Below.refl _ _).drew ?_
                refine WQ.out ?_
                repeat (first | (refine WQ_no (by rfl) ?_; (simp only [Act.put, zzT, zzO, zzS])) | (refine WQ_yes (by rfl) ?_; apply Exists.intro; refine ⟨fun w1 hb1 => ?_, ?_⟩; (focus ((have hb1 := zH hb1; go_simp); (try (go_bits; try go_simp)); (try (rw [if_pos (by omega)]; try go_simp)); (first | done | (with_reducible rfl) | exact rfl))); (simp only [Act.put, zzT, zzO, zzS])))
                refine WQ_nil ?_
                intro w1 hb1
                replace K14 := zH (K14.out.to hb1)
                replace KNx := zH (KNx.out.to hb1)
                have HRx := zH (bThen HR4.out hb1)
                clear hb1
                obtain ⟨w7, hw7⟩ : ∃ wv, wv = w1 := ⟨_, rfl⟩
                subst hw7
                have HOx := zH (owns_to HO.out HRx.out)
                have hlo := zH HO.out.lt
                have H37 := zH (HR3.out.trans (HRx.out.mono (by have := KN.out.1; omega)))
                have hN7 : N3 ≤ w7.heap.size := Nat.le_trans hN HRx.out.size
                clear HR4 HRx HO K4x HBx
                go_wp2_with fail
                refine wp_region_graph (KeepR B11 B14) (KeepR.pre _ _) (by kernel_rfl) (fun wi hwe hwi => ?_)
                replace K14 := zH (K14.out.to hwi)
                replace KNx := zH (KNx.out.to hwi)
                replace HOx := zH (owns_to HOx.out hwi)
                replace H37 := zH (H37.out.trans (hwi.mono (by have := H11.out; omega)))
                have hNi : N3 ≤ wi.heap.size := Nat.le_trans hN7 hwi.size
                clear hwe hwi hN7
                refine WG_yes 0 rfl (by kernel_rfl) (fun _ _ _ _ _ h => h) (by rfl) ?_; apply Exists.intro; refine ⟨fun w1 hb1 => ?_, ?_⟩; (focus ((have hb1 := zH hb1; go_simp); (try (go_bits; try go_simp)); (try (rw [if_pos (by omega)]; try go_simp)); (first | done | (with_reducible rfl) | exact rfl)))
                simp only [Act.put, zzT, zzO, zzS]
                refine WG_yes 1 rfl (by kernel_rfl) (fun _ _ _ _ _ h => h) (by rfl) ?_; apply Exists.intro; refine ⟨fun w1 hb1 => ?_, ?_⟩; (focus ((have hb1 := zH hb1; go_simp); (try (go_bits; try go_simp)); (try (rw [if_pos (by omega)]; try go_simp)); (first | done | (with_reducible rfl) | exact rfl)))
                simp only [Act.put, zzT, zzO, zzS]
                refine WG_yes 4 rfl (by kernel_rfl) (fun _ _ _ _ _ h => h) (by rfl) ?_; apply Exists.intro; refine ⟨fun w1 hb1 => ?_, ?_⟩; (focus (((obtain ⟨-, k14, -⟩ := K14.out.same hb1.2); have hb1 := zH hb1; go_simp); (try (go_bits; try go_simp)); (try (rw [if_pos (by omega)]; try go_simp)); (first | done | (with_reducible rfl) | exact rfl)))
                simp only [Act.put, zzT, zzO, zzS]
                refine WG_one 2 rfl (by kernel_rfl) ?_
                unfold stepG
                go_wp2_with fail
                obtain ⟨w8, hw8⟩ : ∃ u, wi.alloc (.cells #[.int .i64 d] 3) = u := ⟨_, rfl⟩
                rw [hw8]
                have HNW : Hid (Blk w8 wi.heap.size #[.int .i64 d]) := by subst hw8; exact zH (Blk.new _ _ _)
                have hb8 : Below wi.heap.size wi w8 := by subst hw8; exact bAlloc (bSelf _) _
                have hk8 : KeepR B11 B14 wi w8 := ⟨hb8.mono (by have := KNx.out.1; omega), by subst hw8; exact Below.heap_alloc _ _ _ K14.out.1⟩
                have HNN := zH HNW.out.news
                replace HOx := zH (owns_to HOx.out hb8)
                replace KNx := zH (KNx.out.to hb8)
                have K148 := zH (K14.out.to hb8)
                have hN8 : N3 ≤ w8.heap.size := Nat.le_trans hNi hb8.size
                replace H37 := zH (H37.out.trans hk8.1)
                obtain ⟨T8, hT8⟩ : ∃ t, wi.heap.size = t := ⟨_, rfl⟩
                rw [hT8] at HNN ⊢
                refine ⟨hk8, ?_⟩
                clear hb8 hk8 hw8 hT8 HNW hNi K14
                refine WG_one 3 rfl (by kernel_rfl) ?_
                unfold stepG
                go_wp2_with (at_builtin; go_loud (refine wpList_app N3 rtInt rfl (.tmp 66) (.tmp 68) rfl _ mo _ rfl HOx.out ⟨T8, 0, none⟩ 1 1 [.int .i64 d] rfl rfl (by simpa using HNN.out) (ones [d]) (by unfold maxLen; omega) (by omega) hN8 ?_; intro v' w9 hown' hgrow _ hwhere; obtain ⟨vb', vd', rfl⟩ := ownsRow_sl hown'; have HO9 := zH hown'; have HG9 := zH hgrow; clear hown' hgrow hwhere))
                have hk9 : KeepR B11 B14 w8 w9 := ⟨(Below.refl _ _).grown HG9.out (by have := KNx.out.1; omega) (fun k e => by have := (hlo.out k e).1; have := H11.out; omega), HG9.out.block B14 K148.out.1 (fun e => by have := (hlo.out B14 e.symm).2; have := hNv.out; omega)⟩
                have KN9 := zH (blk_grown KNx.out HG9.out (fun e => by have := (hlo.out _ e).1; have := H11.out; omega))
                have hN9 : N3 ≤ w9.heap.size := Nat.le_trans hN8 HG9.out.size
                replace H37 := zH (H37.out.trans hk9.1)
                refine ⟨hk9, ?_⟩
                clear hk9 HG9 HNN HOx KNx K148 hN8
                refine WG_yes 5 rfl (by kernel_rfl) (fun _ _ _ _ _ h => h) (by rfl) ?_; apply Exists.intro; refine ⟨fun w1 hb1 => ?_, ?_⟩; (focus ((have hb1 := zH hb1; go_simp); (try (go_bits; try go_simp)); (try (rw [if_pos (by omega)]; try go_simp)); (first | done | (with_reducible rfl) | exact rfl)))
                simp only [Act.put, zzT, zzO, zzS]
                refine WG_one 6 rfl (by kernel_rfl) ?_
                unfold stepG
                obtain ⟨-, kn, fn⟩ := KN9.out
                go_wp2_with fail
                clear kn fn
                obtain ⟨w10, hw10⟩ : ∃ u, (w9.setCell ⟨B11, 0, none⟩ (.int .i64 t1)).setCell ⟨B11, 1, none⟩ (.bool t2) = u := ⟨_, rfl⟩
                rw [hw10]
                have hk10 : KeepR B11 B14 w9 w10 := by
                  rw [← hw10]
                  exact ⟨((Below.refl _ _).setCell (p := ⟨B11, 0, none⟩) (Nat.le_refl _) _).setCell (p := ⟨B11, 1, none⟩) (Nat.le_refl _) _, by rw [Below.heap_setCell _ _ _ _ (fun e => h1114.out e.symm), Below.heap_setCell _ _ _ _ (fun e => h1114.out e.symm)]⟩
                have KN10 : Hid (Blk w10 B11 #[.int .i64 t1, .bool t2]) := by rw [← hw10]; exact zH ((KN9.out.set 0 (.int .i64 t1)).set 1 (.bool t2))
                have HO10 := zH (owns_set (owns_set HO9.out (p := ⟨B11, 0, none⟩) H11.out (x := .int .i64 t1)) (p := ⟨B11, 1, none⟩) H11.out (x := .bool t2))
                rw [hw10] at HO10
                have hN10 : N3 ≤ w10.heap.size := by rw [← hw10]; simpa [World.setCell] using hN9
                replace H37 := zH (H37.out.trans hk10.1)
                refine ⟨hk10, ?_⟩
                clear hk10 hw10 KN9 HO9 hN9
                refine WG_done (by kernel_rfl) ?_
                go_wp2_with fail
                go_roundw
                case rel => exact ⟨i + 1, vb', vd', (t1, t2), out ++ [d], by rw [show (out ++ [d]).length = mo + 1 by rw [List.length_append, HMO.out]; rfl], by go_num, by omega, HTN, KN10, zH (by rw [show (out ++ [d]).length = mo + 1 by rw [List.length_append, HMO.out]; rfl, List.map_append]; exact HO10.out), hN10, H37⟩
                case measure => simp [intOf]; omega
              | some t =>
                dsimp only [Option.isSome_some]
                obtain rfl : t = (t1, t2) := HT.out
                have HTO := HOKT.out _ rfl
                have HP3 := zH (fun W cx hb => HPI.out W (t1, t2) HTO cx hb)
                obtain ⟨pb, hpb⟩ : ∃ b, prmR p lim [(t1, t2)] rs = b := ⟨_, rfl⟩
                rw [hpb] at HP3
                dsimp only at HP3 HYE HNO
                rw [hpb] at HYE HNO
                have hkc : k ≤ cc := by omega
                have hik1 : i + 1 ≤ k := by omega
                have hik2 : (i : Int) + 1 ≤ (k : Int) := by omega
                clear hpb HPI HOKT HTO
                go_wp2_with fail
                refine wp_region_quiet_all (fun w' => Below (World.heap w6).size (w6) w') (by kernel_rfl) (by kernel_rfl) (Below.refl _ _).drew ?_
                refine WQ.out ?_
                repeat (first | (refine WQ_no (by rfl) ?_; (simp only [Act.put, zzT, zzO, zzS])) | (refine WQ_yes (by rfl) ?_; apply Exists.intro; refine ⟨fun w1 hb1 => ?_, ?_⟩; (focus (((obtain ⟨-, k4, -⟩ := K4x.out.to hb1; obtain ⟨-, k14, -⟩ := K14.out.to hb1); have hb1 := zH hb1; go_simp); (try (go_bits; try go_simp)); (try (rw [if_pos (by omega)]; try go_simp)); (first | done | ((go_at_call 77; refine (HP3.out _ _ (bThen HBx.out hb1.out)).mono ?_; rintro e w' ⟨rfl, hb⟩; exact ⟨rfl, bThen hb1.out hb⟩)) | (with_reducible rfl) | exact rfl))); (simp only [Act.put, zzT, zzO, zzS])))
                refine WQ_nil ?_
                intro w1 hb1
                obtain ⟨ax, hax⟩ : ∃ x, (if cc = i + 1 then (some ⟨bc, oc, none⟩ : Option Addr) else some ⟨bc, oc + (i + 1) * 2, none⟩) = x := ⟨_, rfl⟩
                rw [hax]
                clear hax
                cases pb
                · simp only [Bool.not_false]
                  have HTN := zH (HYE.out rfl)
                  clear HYE HNO HP3
                  replace K14 := zH (K14.out.to hb1)
                  replace KNx := zH (KNx.out.to hb1)
                  have HRx := zH (bThen HR4.out hb1)
                  clear hb1
                  obtain ⟨w7, hw7⟩ : ∃ wv, wv = w1 := ⟨_, rfl⟩
                  subst hw7
                  have HOx := zH (owns_to HO.out HRx.out)
                  have hlo := zH HO.out.lt
                  have H37 := zH (HR3.out.trans (HRx.out.mono (by have := KN.out.1; omega)))
                  have hN7 : N3 ≤ w7.heap.size := Nat.le_trans hN HRx.out.size
                  clear HR4 HRx HO K4x HBx
                  go_wp2_with fail
                  refine wp_region_graph (KeepR B11 B14) (KeepR.pre _ _) (by kernel_rfl) (fun wi hwe hwi => ?_)
                  replace K14 := zH (K14.out.to hwi)
                  replace KNx := zH (KNx.out.to hwi)
                  replace HOx := zH (owns_to HOx.out hwi)
                  replace H37 := zH (H37.out.trans (hwi.mono (by have := H11.out; omega)))
                  have hNi : N3 ≤ wi.heap.size := Nat.le_trans hN7 hwi.size
                  clear hwe hwi hN7
                  refine WG_yes 0 rfl (by kernel_rfl) (fun _ _ _ _ _ h => h) (by rfl) ?_; apply Exists.intro; refine ⟨fun w1 hb1 => ?_, ?_⟩; (focus ((have hb1 := zH hb1; go_simp); (try (go_bits; try go_simp)); (try (rw [if_pos (by omega)]; try go_simp)); (first | done | (with_reducible rfl) | exact rfl)))
                  simp only [Act.put, zzT, zzO, zzS]
                  refine WG_yes 1 rfl (by kernel_rfl) (fun _ _ _ _ _ h => h) (by rfl) ?_; apply Exists.intro; refine ⟨fun w1 hb1 => ?_, ?_⟩; (focus ((have hb1 := zH hb1; go_simp); (try (go_bits; try go_simp)); (try (rw [if_pos (by omega)]; try go_simp)); (first | done | (with_reducible rfl) | exact rfl)))
                  simp only [Act.put, zzT, zzO, zzS]
                  refine WG_yes 4 rfl (by kernel_rfl) (fun _ _ _ _ _ h => h) (by rfl) ?_; apply Exists.intro; refine ⟨fun w1 hb1 => ?_, ?_⟩; (focus (((obtain ⟨-, k14, -⟩ := K14.out.same hb1.2); have hb1 := zH hb1; go_simp); (try (go_bits; try go_simp)); (try (rw [if_pos (by omega)]; try go_simp)); (first | done | (with_reducible rfl) | exact rfl)))
                  simp only [Act.put, zzT, zzO, zzS]
                  refine WG_one 2 rfl (by kernel_rfl) ?_
                  unfold stepG
                  go_wp2_with fail
                  obtain ⟨w8, hw8⟩ : ∃ u, wi.alloc (.cells #[.int .i64 d] 3) = u := ⟨_, rfl⟩
                  rw [hw8]
                  have HNW : Hid (Blk w8 wi.heap.size #[.int .i64 d]) := by subst hw8; exact zH (Blk.new _ _ _)
                  have hb8 : Below wi.heap.size wi w8 := by subst hw8; exact bAlloc (bSelf _) _
                  have hk8 : KeepR B11 B14 wi w8 := ⟨hb8.mono (by have := KNx.out.1; omega), by subst hw8; exact Below.heap_alloc _ _ _ K14.out.1⟩
                  have HNN := zH HNW.out.news
                  replace HOx := zH (owns_to HOx.out hb8)
                  replace KNx := zH (KNx.out.to hb8)
                  have K148 := zH (K14.out.to hb8)
                  have hN8 : N3 ≤ w8.heap.size := Nat.le_trans hNi hb8.size
                  replace H37 := zH (H37.out.trans hk8.1)
                  obtain ⟨T8, hT8⟩ : ∃ t, wi.heap.size = t := ⟨_, rfl⟩
                  rw [hT8] at HNN ⊢
                  refine ⟨hk8, ?_⟩
                  clear hb8 hk8 hw8 hT8 HNW hNi K14
                  refine WG_one 3 rfl (by kernel_rfl) ?_
                  unfold stepG
                  go_wp2_with (at_builtin; go_loud (refine wpList_app N3 rtInt rfl (.tmp 66) (.tmp 68) rfl _ mo _ rfl HOx.out ⟨T8, 0, none⟩ 1 1 [.int .i64 d] rfl rfl (by simpa using HNN.out) (ones [d]) (by unfold maxLen; omega) (by omega) hN8 ?_; intro v' w9 hown' hgrow _ hwhere; obtain ⟨vb', vd', rfl⟩ := ownsRow_sl hown'; have HO9 := zH hown'; have HG9 := zH hgrow; clear hown' hgrow hwhere))
                  have hk9 : KeepR B11 B14 w8 w9 := ⟨(Below.refl _ _).grown HG9.out (by have := KNx.out.1; omega) (fun k e => by have := (hlo.out k e).1; have := H11.out; omega), HG9.out.block B14 K148.out.1 (fun e => by have := (hlo.out B14 e.symm).2; have := hNv.out; omega)⟩
                  have KN9 := zH (blk_grown KNx.out HG9.out (fun e => by have := (hlo.out _ e).1; have := H11.out; omega))
                  have hN9 : N3 ≤ w9.heap.size := Nat.le_trans hN8 HG9.out.size
                  replace H37 := zH (H37.out.trans hk9.1)
                  refine ⟨hk9, ?_⟩
                  clear hk9 HG9 HNN HOx KNx K148 hN8
                  refine WG_yes 5 rfl (by kernel_rfl) (fun _ _ _ _ _ h => h) (by rfl) ?_; apply Exists.intro; refine ⟨fun w1 hb1 => ?_, ?_⟩; (focus ((have hb1 := zH hb1; go_simp); (try (go_bits; try go_simp)); (try (rw [if_pos (by omega)]; try go_simp)); (first | done | (with_reducible rfl) | exact rfl)))
                  simp only [Act.put, zzT, zzO, zzS]
                  refine WG_one 6 rfl (by kernel_rfl) ?_
                  unfold stepG
                  obtain ⟨-, kn, fn⟩ := KN9.out
                  go_wp2_with fail
                  clear kn fn
                  obtain ⟨w10, hw10⟩ : ∃ u, (w9.setCell ⟨B11, 0, none⟩ (.int .i64 t1)).setCell ⟨B11, 1, none⟩ (.bool t2) = u := ⟨_, rfl⟩
                  rw [hw10]
                  have hk10 : KeepR B11 B14 w9 w10 := by
                    rw [← hw10]
                    exact ⟨((Below.refl _ _).setCell (p := ⟨B11, 0, none⟩) (Nat.le_refl _) _).setCell (p := ⟨B11, 1, none⟩) (Nat.le_refl _) _, by rw [Below.heap_setCell _ _ _ _ (fun e => h1114.out e.symm), Below.heap_setCell _ _ _ _ (fun e => h1114.out e.symm)]⟩
                  have KN10 : Hid (Blk w10 B11 #[.int .i64 t1, .bool t2]) := by rw [← hw10]; exact zH ((KN9.out.set 0 (.int .i64 t1)).set 1 (.bool t2))
                  have HO10 := zH (owns_set (owns_set HO9.out (p := ⟨B11, 0, none⟩) H11.out (x := .int .i64 t1)) (p := ⟨B11, 1, none⟩) H11.out (x := .bool t2))
                  rw [hw10] at HO10
                  have hN10 : N3 ≤ w10.heap.size := by rw [← hw10]; simpa [World.setCell] using hN9
                  replace H37 := zH (H37.out.trans hk10.1)
                  refine ⟨hk10, ?_⟩
                  clear hk10 hw10 KN9 HO9 hN9
                  refine WG_done (by kernel_rfl) ?_
                  go_wp2_with fail
                  go_roundw
                  case rel => exact ⟨i + 1, vb', vd', (t1, t2), out ++ [d], by rw [show (out ++ [d]).length = mo + 1 by rw [List.length_append, HMO.out]; rfl], by go_num, by omega, HTN, KN10, zH (by rw [show (out ++ [d]).length = mo + 1 by rw [List.length_append, HMO.out]; rfl, List.map_append]; exact HO10.out), hN10, H37⟩
                  case measure => simp [intOf]; omega
                · simp only [Bool.not_true]
                  have HFN := zH (HNO.out rfl)
                  clear HYE HNO HP3
                  replace HR4 := zH (bThen HR4.out hb1)
                  clear hb1
                  go_wp2_with fail
                  go_roundw
                  case rel => exact ⟨rfl, j + 1, by rw [← HDD.out], hjn, HFN, HR4⟩
                  case measure => simp [intOf]; omega
            · have HNN := zH (HNI.out (fnd_end (f := stlB p lim (x1, x2) rs) hfn.out (by dsimp only; omega)))
              replace HR3 := zH (HR3.out.trans (HR4.out.mono (by have := KN.out.1; omega)))
              replace HO := zH (owns_to HO.out HR4.out)
              have hN2 : N3 ≤ wr.heap.size := Nat.le_trans hN HR4.out.size
              clear HNI HTI HPI HXI hfn
              go_wp2_with fail
              go_roundw
              case rel => exact ⟨i + 1, va, vc, (x1, x2), out, by rw [HMO.out], by go_num, by omega, HNN, KNx, by rw [HMO.out]; exact HO, hN2, HR3⟩
              case measure => simp [intOf]; omega
        · obtain rfl : i = k := by omega
          obtain rfl := HFIN.out (x1, x2) out HI.out
          obtain ⟨a', cap', e, hcp, hrd, hfr⟩ := Reads.of_row (f := ints out) HO.out (fun i hi => by
            rw [List.getElem?_map, List.getElem?_eq_getElem (by omega)]
            unfold ints
            rw [gi_lt (by omega)]
            rfl)
          cases e
          rw [Nat.mul_one] at hrd
          have HRD := zH hrd
          have HBF := zH (bThen HB.out (HB2.out _ HR3.out))
          clear hrd hfr HO
          go_wp2_with fail
          go_ret
          exact ⟨va, vc, rfl, hcp, HRD.out, HBF.out⟩

end Go.Proofs.YtjfedpblkejmkaaGreat

namespace Go.Proofs.YtjfedpblkejmkaaGreat
open Go.RowKit
set_option maxHeartbeats 400000 in
theorem bCeil_any (n m : Int) (w : World) (hm : 0 < m) (h1 : -1000000000000000000 ≤ n) (h2 : n ≤ 1000000000000000000) (h3 : m ≤ 1000000000000000000) :
    Calls Tryz.prog 148 #[.int .i64 n, .int .i64 m] w fun e w' => e = .returned (.int .i64 (-(-n / m))) ∧ w = w' := by
  have hF := zH (fun W => bFloor_any (-n) m W hm (by omega) (by omega) h3)
  have b1 : -n / m ≤ 1000000000000000000 := by
    have := Int.ediv_le_ediv hm (show -n ≤ 1000000000000000000 * m by have := Int.mul_le_mul_of_nonneg_left (show 1 ≤ m by omega) (show (0 : Int) ≤ 1000000000000000000 by decide); omega)
    rw [Int.mul_ediv_cancel _ (by omega)] at this
    exact this
  have b2 : -1000000000000000000 ≤ -n / m := by
    rw [Int.le_ediv_iff_mul_le hm]
    have := Int.mul_le_mul_of_nonneg_left (show 1 ≤ m by omega) (show (0 : Int) ≤ 1000000000000000000 by decide)
    omega
  obtain ⟨q, hq⟩ : ∃ q, -n / m = q := ⟨_, rfl⟩
  rw [hq] at hF b1 b2 ⊢
  clear hq
  go_enter Tryz.func148, Tryz.ntmps148
  go_wp2_with (go_at_call 147; refine (hF.out _).mono ?_; rintro e w' ⟨rfl, rfl⟩)
  go_ret
  exact ⟨rfl, rfl⟩

set_option maxHeartbeats 6400000 in
set_option maxRecDepth 100000 in
theorem rScaled_any (c : List (Int × Int)) (pc : Int) (a : Option Addr) (cap : Nat) (w : World) (hlc : c.length ≤ 20) (hc : ∀ k, k < c.length → 0 ≤ (fg c k).1 ∧ (fg c k).2 ≤ 50 ∧ (fg c k).1 ≤ (fg c k).2) (hpc : 0 ≤ pc ∧ pc ≤ 200) (hr : Reads w a (c.length * 2) (fracs c)) :
    Calls Tryz.prog 72 #[.slice a c.length cap, .int .i64 pc] w (SclPost (sclQ pc c) w) := by
  have HS := zH (fun k h1 h2 => sclQ_no (pc := pc) (c := c) (k := k) h1 h2)
  have HT := zH (fun h => sclQ_all (pc := pc) (c := c) h)
  have HV := zH (fun k hk => hc k hk)
  have HR := zH hr
  have HE := zH (sclT_end (pc := pc) (c := c))
  obtain ⟨so, hso⟩ : ∃ o, sclQ pc c = o := ⟨_, rfl⟩
  rw [hso] at HS HT ⊢
  have HLN := zH (fun k h => sclT_len (pc := pc) (c := c) (k := k) h)
  have HSU := zH (fun k h => sclT_succ (pc := pc) (c := c) (k := k) h)
  obtain ⟨n, hn⟩ : ∃ n, c.length = n := ⟨_, rfl⟩
  rw [hn] at HS HT HV HR HE HLN HSU hlc ⊢
  obtain ⟨hp0, hp1⟩ := hpc
  have HFL := zH (fun W lo (h : 0 ≤ pc * lo) (h2 : pc * lo ≤ 10000) => bFloor_any (pc * lo) 100 W (by decide) (by omega) (by omega) (by decide))
  have HCE := zH (fun W lo (h : 0 ≤ pc * lo) (h2 : pc * lo ≤ 10000) => bCeil_any (pc * lo) 100 W (by decide) (by omega) (by omega) (by decide))
  clear hr hc hso hn
  go_enter Tryz.func72, Tryz.ntmps72
  go_wp2_with fail
  go_loopw [6, 7, 8] (fun s6 s7 _ wr => ∃ (k : Nat) (va : Option Addr) (vc : Nat), s6 = .slice va k vc ∧ s7 = .int .i64 k ∧ k ≤ n ∧ Hid (∀ j, j < k → (scR pc (fg c j)).2 ≤ 50) ∧ Hid (wr.ownsRow w.heap.size 25 2 (.slice va k vc) k (fcells (sclT pc c k))) ∧ Hid (Below w.heap.size w wr)) (fun _ s7 _ _ => n - (intOf s7).toNat)
  case atStart => exact ⟨0, none, 0, rfl, rfl, Nat.zero_le _, zH (by intro j h; omega), zH ⟨by simp [sclT, fcells], .inl ⟨rfl, rfl⟩⟩, zH (bSelf w)⟩
  case round =>
    obtain ⟨k, va, vc, rfl, rfl, hk, hle, HO, HR0⟩ := hrel
    by_cases hlt : k < n
    · obtain ⟨b, off, rfl, hb, hcc⟩ := (HR.out.to HR0.out).at (k := k * 2) (by omega)
      obtain ⟨⟨lo, hi⟩, hz⟩ : ∃ q, fg c k = q := ⟨_, rfl⟩
      obtain ⟨wv, hwv⟩ : ∃ wv, wv = wr := ⟨_, rfl⟩
      subst hwv
      have C0 : Hid (wv.cell? ⟨b, off + k * 2, none⟩ = some (.int .i64 lo)) := zH (by rw [hcc _ (by omega), fracs0, hz])
      have C1 : Hid (wv.cell? ⟨b, off + k * 2 + 1, none⟩ = some (.int .i64 hi)) := zH (by rw [Nat.add_assoc, hcc _ (by omega), fracs1, hz])
      obtain ⟨v0, v1, v2⟩ := HV.out k hlt
      have HSU1 := zH (HSU.out k hlt)
      have HSK := zH (fun h => HS.out k hlt h)
      rw [hz] at v0 v1 v2
      rw [hz, scR_val] at HSU1 HSK
      dsimp only at v0 v1 v2 HSU1 HSK
      obtain ⟨m0, m1⟩ := mul_bd2 (a := pc) (b := lo) ⟨hp0, hp1⟩ ⟨v0, by omega⟩
      obtain ⟨m2, m3⟩ := mul_bd2 (a := pc) (b := hi) ⟨hp0, hp1⟩ ⟨by omega, v1⟩
      have HF1 := zH (fun W => HFL.out W lo m0 m1)
      have HC1 := zH (fun W => HCE.out W hi m2 m3)
      obtain ⟨x1, hx1⟩ : ∃ x, pc * lo / 100 = x := ⟨_, rfl⟩
      obtain ⟨x2, hx2⟩ : ∃ x, (pc * hi + 100 - 1) / 100 = x := ⟨_, rfl⟩
      rw [hx1] at HF1 HSU1
      rw [hx2] at HSU1 HSK
      rw [show -(-(pc * hi) / 100) = x2 by omega] at HC1
      have HX0 : Hid (0 ≤ x2) := zH (by omega)
      have HX2 : Hid ((scR pc (fg c k)).2 = x2) := zH (by rw [hz, scR_val]; exact hx2)
      clear hcc hz HFL HCE HSU HS hx1 hx2
      go_wp2_with fail
      go_cut [8] from 15 to 31 (fun s8 wc => ∃ B, s8 = .pointer (some ⟨B, 0, none⟩) ∧ Hid (Blk wc B #[.int .i64 x1, .int .i64 x2]) ∧ Hid (Below wv.heap.size wv wc))
      case first =>
        refine wp_region_tree (by kernel_rfl) (fun wd hwd => ?_)
        have T := zH hwd
        clear hwd
        refine WT_yes 0 rfl (by kernel_rfl) (fun _ _ _ _ _ h => h) (by rfl) ?_; apply Exists.intro; refine ⟨fun w1 hb1 => ?_, ?_⟩; (focus ((have hb1 := zH hb1; go_simp); (try (go_bits; try go_simp)); (try (rw [if_pos (by omega)]; try go_simp)); (first | done | (with_reducible rfl) | exact rfl)))
        simp only [Act.put, zzT, zzO, zzS]
        refine WT_yes 1 rfl (by kernel_rfl) (fun _ _ _ _ _ h => h) (by rfl) ?_; apply Exists.intro; refine ⟨fun w1 hb1 => ?_, ?_⟩; (focus ((have hb1 := zH hb1; go_simp); (try (go_bits; try go_simp)); (try (rw [if_pos (by omega)]; try go_simp)); (first | done | (with_reducible rfl) | exact rfl)))
        simp only [Act.put, zzT, zzO, zzS]
        refine WT_yes 2 rfl (by kernel_rfl) (fun _ _ _ _ _ h => h) (by rfl) ?_; apply Exists.intro; refine ⟨fun w1 hb1 => ?_, ?_⟩; (focus ((have hb1 := zH hb1; go_simp); (try (go_bits; try go_simp)); (try (rw [if_pos (by omega)]; try go_simp)); (first | done | (with_reducible rfl) | exact rfl)))
        simp only [Act.put, zzT, zzO, zzS]
        refine WT_yes 3 rfl (by kernel_rfl) (fun _ _ _ _ _ h => h) (by rfl) ?_; apply Exists.intro; refine ⟨fun w1 hb1 => ?_, ?_⟩; (focus ((have hb1 := zH hb1; go_simp); (try (go_bits; try go_simp)); (try (rw [if_pos (by omega)]; try go_simp)); (first | done | (with_reducible rfl) | exact rfl)))
        simp only [Act.put, zzT, zzO, zzS]
        refine WT_yes 4 rfl (by kernel_rfl) (fun _ _ _ _ _ h => h) (by rfl) ?_; apply Exists.intro; refine ⟨fun w1 hb1 => ?_, ?_⟩; (focus (((have c0 := ((T.out.trans hb1).cell (p := ⟨b, off + k * 2, none⟩) hb).trans C0.out; have c1 := ((T.out.trans hb1).cell (p := ⟨b, off + k * 2 + 1, none⟩) hb).trans C1.out); have hb1 := zH hb1; go_simp); (try (go_bits; try go_simp)); (try (rw [if_pos (by omega)]; try go_simp)); (first | done | (with_reducible rfl) | exact rfl)))
        simp only [Act.put, zzT, zzO, zzS]
        refine WT_yes 5 rfl (by kernel_rfl) (fun _ _ _ _ _ h => h) (by rfl) ?_; apply Exists.intro; refine ⟨fun w1 hb1 => ?_, ?_⟩; (focus (((have c0 := ((T.out.trans hb1).cell (p := ⟨b, off + k * 2, none⟩) hb).trans C0.out; have c1 := ((T.out.trans hb1).cell (p := ⟨b, off + k * 2 + 1, none⟩) hb).trans C1.out); have hb1 := zH hb1; go_simp); (try (go_bits; try go_simp)); (try (rw [if_pos (by omega)]; try go_simp)); (first | done | (with_reducible rfl) | exact rfl)))
        simp only [Act.put, zzT, zzO, zzS]
        refine WT_yes 6 rfl (by kernel_rfl) (fun _ _ _ _ _ h => h) (by rfl) ?_; apply Exists.intro; refine ⟨fun w1 hb1 => ?_, ?_⟩; (focus ((have hb1 := zH hb1; go_simp); (try (go_bits; try go_simp)); (try (rw [if_pos (by omega)]; try go_simp)); (first | done | (with_reducible rfl) | exact rfl)))
        simp only [Act.put, zzT, zzO, zzS]
        refine WT_yes 8 rfl (by kernel_rfl) (fun _ _ _ _ _ h => h) (by rfl) ?_; apply Exists.intro; refine ⟨fun w1 hb1 => ?_, ?_⟩; (focus ((have hb1 := zH hb1; go_simp); (try (go_bits; try go_simp)); (try (rw [if_pos (by omega)]; try go_simp)); (first | done | (with_reducible rfl) | exact rfl)))
        simp only [Act.put, zzT, zzO, zzS]
        refine WT_yes 9 rfl (by kernel_rfl) (fun _ _ _ _ _ h => h) (by rfl) ?_; apply Exists.intro; refine ⟨fun w1 hb1 => ?_, ?_⟩; (focus ((have hb1 := zH hb1; go_simp); (try (go_bits; try go_simp)); (try (rw [if_pos (by omega)]; try go_simp)); (first | done | (with_reducible rfl) | exact rfl)))
        simp only [Act.put, zzT, zzO, zzS]
        refine WT_yes 10 rfl (by kernel_rfl) (fun _ _ _ _ _ h => h) (by rfl) ?_; apply Exists.intro; refine ⟨fun w1 hb1 => ?_, ?_⟩; (focus ((have hb1 := zH hb1; go_simp); (try (go_bits; try go_simp)); (try (rw [if_pos (by omega)]; try go_simp)); (first | done | (with_reducible rfl) | exact rfl)))
        simp only [Act.put, zzT, zzO, zzS]
        refine WT_yes 11 rfl (by kernel_rfl) (fun _ _ _ _ _ h => h) (by rfl) ?_; apply Exists.intro; refine ⟨fun w1 hb1 => ?_, ?_⟩; (focus ((have hb1 := zH hb1; go_simp); (try (go_bits; try go_simp)); (try (rw [if_pos (by omega)]; try go_simp)); (first | done | (with_reducible rfl) | exact rfl)))
        simp only [Act.put, zzT, zzO, zzS]
        refine WT_yes 12 rfl (by kernel_rfl) (fun _ _ _ _ _ h => h) (by rfl) ?_; apply Exists.intro; refine ⟨fun w1 hb1 => ?_, ?_⟩; (focus (((have c0 := ((T.out.trans hb1).cell (p := ⟨b, off + k * 2, none⟩) hb).trans C0.out; have c1 := ((T.out.trans hb1).cell (p := ⟨b, off + k * 2 + 1, none⟩) hb).trans C1.out); have hb1 := zH hb1; go_simp); (try (go_bits; try go_simp)); (try (rw [if_pos (by omega)]; try go_simp)); (first | done | (with_reducible rfl) | exact rfl)))
        simp only [Act.put, zzT, zzO, zzS]
        refine WT_yes 13 rfl (by kernel_rfl) (fun _ _ _ _ _ h => h) (by rfl) ?_; apply Exists.intro; refine ⟨fun w1 hb1 => ?_, ?_⟩; (focus (((have c0 := ((T.out.trans hb1).cell (p := ⟨b, off + k * 2, none⟩) hb).trans C0.out; have c1 := ((T.out.trans hb1).cell (p := ⟨b, off + k * 2 + 1, none⟩) hb).trans C1.out); have hb1 := zH hb1; go_simp); (try (go_bits; try go_simp)); (try (rw [if_pos (by omega)]; try go_simp)); (first | done | (with_reducible rfl) | exact rfl)))
        simp only [Act.put, zzT, zzO, zzS]
        refine WT_yes 14 rfl (by kernel_rfl) (fun _ _ _ _ _ h => h) (by rfl) ?_; apply Exists.intro; refine ⟨fun w1 hb1 => ?_, ?_⟩; (focus ((have hb1 := zH hb1; go_simp); (try (go_bits; try go_simp)); (try (rw [if_pos (by omega)]; try go_simp)); (first | done | (with_reducible rfl) | exact rfl)))
        simp only [Act.put, zzT, zzO, zzS]
        refine WT_two 7 17 rfl rfl (by kernel_rfl) ?_ ?_
        · unfold stepT
          go_wp2_with fail
          refine (HF1.out _).mono ?_
          rintro e w' ⟨rfl, rfl⟩
          go_wp2_with fail
          refine ⟨Below.refl _ _, ?_⟩
          refine WT_two 15 17 rfl rfl (by kernel_rfl) ?_ ?_
          · unfold stepT
            go_wp2_with fail
            refine (HC1.out _).mono ?_
            rintro e w' ⟨rfl, rfl⟩
            go_wp2_with fail
            refine ⟨Below.refl _ _, ?_⟩
            refine WT_yes 16 rfl (by kernel_rfl) (fun _ _ _ _ _ h => h) (by rfl) ?_; apply Exists.intro; refine ⟨fun w1 hb1 => ?_, ?_⟩; (focus ((have hb1 := zH hb1; go_simp); (try (go_bits; try go_simp)); (try (rw [if_pos (by omega)]; try go_simp)); (first | done | (with_reducible rfl) | exact rfl)))
            simp only [Act.put, zzT, zzO, zzS]
            refine WT_one 17 rfl (by kernel_rfl) ?_
            unfold stepT
            go_wp2_with fail
            obtain ⟨u1, hwA⟩ : ∃ wA, wd.alloc (.cells #[.int .i64 0, .int .i64 0] 25) = wA := ⟨_, rfl⟩
            rw [hwA]
            have hb : Below wd.heap.size wd u1 := by subst hwA; exact bAlloc (bSelf _) _
            have KBN : Hid (Blk u1 wd.heap.size #[.int .i64 0, .int .i64 0]) := by subst hwA; exact Blk.new _ _ _
            clear hwA
            have BNN : Hid (wv.heap.size ≤ wd.heap.size) := zH T.out.size
            obtain ⟨BN, hBN⟩ : ∃ N, wd.heap.size = N := ⟨_, rfl⟩
            have hbd := zH (hb.mono T.out.size)
            replace T := zH (bThen T.out hb)
            clear hb
            rw [hBN] at KBN BNN  ⊢
            clear hBN
            refine ⟨hbd.out, ?_⟩
            clear hbd
            refine WT_one 18 rfl (by kernel_rfl) ?_
            unfold stepT
            obtain ⟨-, kx, fx⟩ := KBN.out
            go_wp2_with fail
            clear kx fx
            obtain ⟨u2, hu⟩ : ∃ u, (u1.setCell ⟨BN, 0, none⟩ (.int .i64 x1)).setCell ⟨BN, 1, none⟩ (.int .i64 x2) = u := ⟨_, rfl⟩
            have hb : Below wv.heap.size u1 u2 := by rw [← hu]; exact ((Below.refl _ _).setCell (p := ⟨BN, 0, none⟩) BNN.out _).setCell (p := ⟨BN, 1, none⟩) BNN.out _
            replace KBN := zH ((KBN.out.set 0 (.int .i64 x1)).set 1 (.int .i64 x2))
            rw [hu] at KBN ⊢
            clear hu
            replace T := zH (T.out.trans hb)
            refine ⟨hb, ?_⟩
            clear hb
            refine WT_done (by kernel_rfl) ?_
            go_wp2_with fail
            go_meet
            case rel => exact ⟨BN, rfl, KBN, T⟩
          · unfold stepT
            go_wp2_with fail
            obtain ⟨u1, hwA⟩ : ∃ wA, wd.alloc (.cells #[.int .i64 0, .int .i64 0] 25) = wA := ⟨_, rfl⟩
            rw [hwA]
            have hb : Below wd.heap.size wd u1 := by subst hwA; exact bAlloc (bSelf _) _
            have KBN : Hid (Blk u1 wd.heap.size #[.int .i64 0, .int .i64 0]) := by subst hwA; exact Blk.new _ _ _
            clear hwA
            have BNN : Hid (wv.heap.size ≤ wd.heap.size) := zH T.out.size
            obtain ⟨BN, hBN⟩ : ∃ N, wd.heap.size = N := ⟨_, rfl⟩
            have hbd := zH (hb.mono T.out.size)
            replace T := zH (bThen T.out hb)
            clear hb
            rw [hBN] at KBN BNN  ⊢
            clear hBN
            refine ⟨hbd.out, ?_⟩
            clear hbd
            refine WT_one 15 rfl (by kernel_rfl) ?_
            unfold stepT
            go_wp2_with fail
            refine (HC1.out _).mono ?_
            rintro e w' ⟨rfl, rfl⟩
            go_wp2_with fail
            refine ⟨Below.refl _ _, ?_⟩
            refine WT_yes 16 rfl (by kernel_rfl) (fun _ _ _ _ _ h => h) (by rfl) ?_; apply Exists.intro; refine ⟨fun w1 hb1 => ?_, ?_⟩; (focus ((have hb1 := zH hb1; go_simp); (try (go_bits; try go_simp)); (try (rw [if_pos (by omega)]; try go_simp)); (first | done | (with_reducible rfl) | exact rfl)))
            simp only [Act.put, zzT, zzO, zzS]
            refine WT_one 18 rfl (by kernel_rfl) ?_
            unfold stepT
            obtain ⟨-, kx, fx⟩ := KBN.out
            go_wp2_with fail
            clear kx fx
            obtain ⟨u2, hu⟩ : ∃ u, (u1.setCell ⟨BN, 0, none⟩ (.int .i64 x1)).setCell ⟨BN, 1, none⟩ (.int .i64 x2) = u := ⟨_, rfl⟩
            have hb : Below wv.heap.size u1 u2 := by rw [← hu]; exact ((Below.refl _ _).setCell (p := ⟨BN, 0, none⟩) BNN.out _).setCell (p := ⟨BN, 1, none⟩) BNN.out _
            replace KBN := zH ((KBN.out.set 0 (.int .i64 x1)).set 1 (.int .i64 x2))
            rw [hu] at KBN ⊢
            clear hu
            replace T := zH (T.out.trans hb)
            refine ⟨hb, ?_⟩
            clear hb
            refine WT_done (by kernel_rfl) ?_
            go_wp2_with fail
            go_meet
            case rel => exact ⟨BN, rfl, KBN, T⟩
        · unfold stepT
          go_wp2_with fail
          obtain ⟨u1, hwA⟩ : ∃ wA, wd.alloc (.cells #[.int .i64 0, .int .i64 0] 25) = wA := ⟨_, rfl⟩
          rw [hwA]
          have hb : Below wd.heap.size wd u1 := by subst hwA; exact bAlloc (bSelf _) _
          have KBN : Hid (Blk u1 wd.heap.size #[.int .i64 0, .int .i64 0]) := by subst hwA; exact Blk.new _ _ _
          clear hwA
          have BNN : Hid (wv.heap.size ≤ wd.heap.size) := zH T.out.size
          obtain ⟨BN, hBN⟩ : ∃ N, wd.heap.size = N := ⟨_, rfl⟩
          have hbd := zH (hb.mono T.out.size)
          replace T := zH (bThen T.out hb)
          clear hb
          rw [hBN] at KBN BNN  ⊢
          clear hBN
          refine ⟨hbd.out, ?_⟩
          clear hbd
          refine WT_one 7 rfl (by kernel_rfl) ?_
          unfold stepT
          go_wp2_with fail
          refine (HF1.out _).mono ?_
          rintro e w' ⟨rfl, rfl⟩
          go_wp2_with fail
          refine ⟨Below.refl _ _, ?_⟩
          refine WT_one 15 rfl (by kernel_rfl) ?_
          unfold stepT
          go_wp2_with fail
          refine (HC1.out _).mono ?_
          rintro e w' ⟨rfl, rfl⟩
          go_wp2_with fail
          refine ⟨Below.refl _ _, ?_⟩
          refine WT_yes 16 rfl (by kernel_rfl) (fun _ _ _ _ _ h => h) (by rfl) ?_; apply Exists.intro; refine ⟨fun w1 hb1 => ?_, ?_⟩; (focus ((have hb1 := zH hb1; go_simp); (try (go_bits; try go_simp)); (try (rw [if_pos (by omega)]; try go_simp)); (first | done | (with_reducible rfl) | exact rfl)))
          simp only [Act.put, zzT, zzO, zzS]
          refine WT_one 18 rfl (by kernel_rfl) ?_
          unfold stepT
          obtain ⟨-, kx, fx⟩ := KBN.out
          go_wp2_with fail
          clear kx fx
          obtain ⟨u2, hu⟩ : ∃ u, (u1.setCell ⟨BN, 0, none⟩ (.int .i64 x1)).setCell ⟨BN, 1, none⟩ (.int .i64 x2) = u := ⟨_, rfl⟩
          have hb : Below wv.heap.size u1 u2 := by rw [← hu]; exact ((Below.refl _ _).setCell (p := ⟨BN, 0, none⟩) BNN.out _).setCell (p := ⟨BN, 1, none⟩) BNN.out _
          replace KBN := zH ((KBN.out.set 0 (.int .i64 x1)).set 1 (.int .i64 x2))
          rw [hu] at KBN ⊢
          clear hu
          replace T := zH (T.out.trans hb)
          refine ⟨hb, ?_⟩
          clear hb
          refine WT_done (by kernel_rfl) ?_
          go_wp2_with fail
          go_meet
          case rel => exact ⟨BN, rfl, KBN, T⟩
      obtain ⟨wz, hwz⟩ : ∃ wo, wo = wc := ⟨_, rfl⟩
      subst hwz
      obtain ⟨B9, rfl, K9, hb2⟩ := hcut
      replace hb2 := hb2.out
      replace HO := zH (owns_to HO.out hb2)
      replace HR0 := zH (bThen HR0.out hb2)
      clear hb2 HF1 HC1 C0 C1
      obtain ⟨-, k9, -⟩ := K9.out
      by_cases hx : x2 ≤ 50
      · have hx' : ¬ 50 < x2 := by omega
        clear HSK
        have HNN := zH (Blk.new wz #[.int .i64 x1, .int .i64 x2] 25).news
        have HROW := zH (HO.out.alloc (.cells #[.int .i64 x1, .int .i64 x2] 25))
        have hlo := zH HO.out.lt
        have hsw : w.heap.size ≤ wz.heap.size := HR0.out.size
        go_wp2_with (at_builtin; go_loud (refine wpList_app w.heap.size rtRg rfl (.tmp 35) (.tmp 37) rfl _ k _ rfl HROW.out ⟨wz.heap.size, 0, none⟩ 1 1 [.int .i64 x1, .int .i64 x2] rfl rfl (by simpa using HNN.out) (onesF [(x1, x2)]) (by unfold maxLen; omega) (by omega) (by simp; omega) ?_; intro v' w7 hown' hgrow _ hwhere; obtain ⟨va', vc', rfl⟩ := ownsRow_sl hown'; have HO7 := zH hown'; have HG7 := zH hgrow; clear hown' hgrow hwhere k9))
        have HRn : Hid (Below w.heap.size w w7) := zH (HR0.out.trans (((Below.refl _ _).alloc hsw _).grown HG7.out (by simp; omega) (fun k e => (hlo.out k e).1)))
        go_roundw
        case rel => exact ⟨k + 1, va', vc', rfl, by go_num, by omega, zH (fun j hj => by
            by_cases h : j = k
            · subst h; rw [HX2.out]; exact hx
            · exact hle.out j (by omega)), zH (by rw [HSU1.out, fcells_app]; exact HO7.out), HRn⟩
        case measure => simp [intOf]; omega
      · have hx' : 50 < x2 := by omega
        obtain rfl : so = none := HSK.out hx'
        go_wp2_with fail
        refine bodyPost_ret (results_tmp2 rfl _ _ _) rfl ?_
        exact ⟨none, 0, rfl, Nat.le_refl _, .inl rfl, HR0.out⟩
    · obtain rfl : n = k := by omega
      obtain rfl : so = some (c.map (scR pc)) := HT.out hle.out
      obtain ⟨a', cap', e, hcp, hrd, hfr⟩ := Reads.of_row (f := fracs (sclT pc c n)) HO.out (fun i hi => fcells_get _ i (by rw [HLN.out n (Nat.le_refl _)]; exact hi))
      cases e
      rw [HE.out] at hrd
      have HRD := zH hrd
      have HLL : Hid ((c.map (scR pc)).length = n) := zH (by rw [← HE.out]; exact HLN.out n (Nat.le_refl _))
      clear hrd hfr HO
      go_wp2_with fail
      refine bodyPost_ret (results_tmp2 rfl _ _ _) rfl ?_
      refine ⟨va, vc, ?_, ?_, ?_, HR0.out⟩
      · show _ = Ending.returned (.tuple #[.slice va (c.map (scR pc)).length vc, .bool true])
        rw [HLL.out]; rfl
      · show (c.map (scR pc)).length ≤ vc
        rw [HLL.out]; exact hcp
      · show Reads _ va ((c.map (scR pc)).length * 2) (fracs (c.map (scR pc)))
        rw [HLL.out]; exact HRD.out

    end Go.Proofs.YtjfedpblkejmkaaGreat

namespace Go.Proofs.YtjfedpblkejmkaaGreat
open Go.RowKit
attribute [local go_sem] Oper.semAt_some

/-- The first percents with which a class is not permitted, and ScaleFor's answer and error. -/
def scK (p : Plt) (s : OSt) (c : List (Int × Int)) (lim : Int) : Nat := scF (scG p s lim c) 0 201
def scfO (p : Plt) (s : OSt) (c : List (Int × Int)) (lim : Int) : Int := if opLE p s.1 c lim = 0 then max 0 ((scK p s c lim : Int) - 1) else 0
def scfE (p : Plt) (s : OSt) (c : List (Int × Int)) (lim : Int) : Int := if opLE p s.1 c lim = 0 then unl (decide ((0 : Int) < (scK p s c lim : Int))) 12 else opLE p s.1 c lim
theorem scl_ok {pc : Int} {c m : List (Int × Int)} (hpc : 0 ≤ pc ∧ pc ≤ 200) (h : sclQ pc c = some m) (hc : ∀ k, k < c.length → 0 ≤ (fg c k).1 ∧ (fg c k).2 ≤ 50 ∧ (fg c k).1 ≤ (fg c k).2) :
    ∀ k, k < m.length → 0 ≤ (fg m k).1 ∧ (fg m k).2 ≤ 50 ∧ (fg m k).1 ≤ (fg m k).2 := by
  obtain ⟨h1, h2⟩ := sclQ_len h
  intro k hk
  rw [h1] at hk
  obtain ⟨e, h3⟩ := h2 k hk
  obtain ⟨c0, c1, c2⟩ := hc k hk
  refine ⟨?_, h3, ?_⟩
  · rw [e, scR_val]
    have := Int.mul_nonneg hpc.1 c0
    dsimp only
    omega
  · rw [e, scR_val]
    have := Int.mul_le_mul_of_nonneg_left c2 hpc.1
    dsimp only
    omega
theorem scG_none {p : Plt} {s : OSt} {lim : Int} {c : List (Int × Int)} {pc : Int} (h : sclQ pc c = none) : scG p s lim c pc = false := by unfold scG; rw [h]
theorem scG_some {p : Plt} {s : OSt} {lim : Int} {c m : List (Int × Int)} {pc : Int} (h : sclQ pc c = some m) : scG p s lim c pc = prmR p lim [s] m := by unfold scG; rw [h]
theorem prm_wit {p : Plt} {s : OSt} {lim : Int} {c : List (Int × Int)} : prmR p lim [s] c = (witA p lim (tks p c [(s, [])])).isNone := prm_law c [(s, [])] [s] (fun x => by simp [sts])
theorem scF_go (g : Int → Bool) {k : Nat} (hk : k ≤ 200) (h : g (k : Int) = true) : scF g k (201 - k) = scF g (k + 1) (201 - (k + 1)) := by
  obtain ⟨m, hm⟩ : ∃ m, 201 - k = m + 1 := ⟨200 - k, by omega⟩
  rw [hm, show 201 - (k + 1) = m by omega]
  show (if g k then scF g (k + 1) m else k) = _
  rw [if_pos h]
theorem scF_stop (g : Int → Bool) {k : Nat} (hk : k ≤ 200) (h : g (k : Int) = false) : scF g k (201 - k) = k := by
  obtain ⟨m, hm⟩ : ∃ m, 201 - k = m + 1 := ⟨200 - k, by omega⟩
  rw [hm]
  show (if g k then scF g (k + 1) m else k) = _
  rw [if_neg (by rw [h]; decide)]

set_option maxHeartbeats 6400000 in
set_option maxRecDepth 100000 in
theorem ScaleFor_any (p : Plt) (s : OSt) (c : List (Int × Int)) (lim : Int) (a ac : Option Addr) (cap cc : Nat) (w : World) (hlen : p.pts.length ≤ 1000) (hlc : c.length ≤ maxLen) (hrc : Reads w ac (c.length * 2) (fracs c)) (hr : Reads w a (p.pts.length * 2) (fracs p.pts)) :
    Calls Tryz.prog 76 #[.agg (plC p a cap), .agg #[.int .i64 s.1, .bool s.2], .slice ac c.length cc, .int .i64 lim] w fun e w' => e = .returned (.tuple #[.int .i64 (scfO p s c lim), .int .i64 (scfE p s c lim)]) ∧ Below w.heap.size w w' := by
  have HO := zH (fun W (hb : Below w.heap.size w W) => openLimit_any p s c lim a ac cap cc W hlen hlc (hrc.to hb) (hr.to hb))
  have HSC := zH (fun W (k : Nat) (hk : k ≤ 200) (h0 : opLE p s.1 c lim = 0) (hb : Below w.heap.size w W) => scaled_any c k ac cc W (opLE_ok h0).1.2.2.1 (opLE_ok h0).1.2.2.2 ⟨by omega, by omega⟩ (hrc.to hb))
  have HWT := zH (fun W al cl am cm (k : Nat) (hk : k ≤ 200) (m : List (Int × Int)) (hm : sclQ k c = some m) (h0 : opLE p s.1 c lim = 0) hrl hrm => witness_any p s m lim a al am cap cl cm W (opLE_ok h0).1.1 (opLE_ok h0).1.2.1 ⟨by rw [(sclQ_len hm).1]; exact (opLE_ok h0).1.2.2.1, scl_ok ⟨by omega, by omega⟩ hm (opLE_ok h0).1.2.2.2⟩ (opLE_ok h0).2 hrl hrm)
  have HLM : Hid (∀ (k : Nat) m, sclQ k c = some m → m.length = c.length) := zH (fun k m h => (sclQ_len h).1)
  have HGN := zH (fun (k : Nat) (hk : k ≤ 200) h => scF_stop (scG p s lim c) hk (scG_none h))
  have HGS := zH (fun (k : Nat) (hk : k ≤ 200) m (h : sclQ k c = some m) (h2 : (witA p lim (tks p m [(s, [])])).isNone = false) => scF_stop (scG p s lim c) hk ((scG_some h).trans (prm_wit.trans h2)))
  have HGG := zH (fun (k : Nat) (hk : k ≤ 200) m (h : sclQ k c = some m) (h2 : (witA p lim (tks p m [(s, [])])).isNone = true) => scF_go (scG p s lim c) hk ((scG_some h).trans (prm_wit.trans h2)))
  have HG0 : Hid (scK p s c lim = scF (scG p s lim c) 0 (201 - 0)) := zH rfl
  have HGE : Hid (scF (scG p s lim c) 201 (201 - 201) = 201) := zH rfl
  have HP : Hid (scfO p s c lim = if opLE p s.1 c lim = 0 then max 0 ((scK p s c lim : Int) - 1) else 0) := zH rfl
  have HR : Hid (scfE p s c lim = if opLE p s.1 c lim = 0 then unl (decide ((0 : Int) < (scK p s c lim : Int))) 12 else opLE p s.1 c lim) := zH rfl
  obtain ⟨ro, hro⟩ : ∃ e, scfO p s c lim = e := ⟨_, rfl⟩
  obtain ⟨re, hre⟩ : ∃ e, scfE p s c lim = e := ⟨_, rfl⟩
  obtain ⟨K, hK⟩ : ∃ e, scK p s c lim = e := ⟨_, rfl⟩
  rw [hro, hK] at HP
  rw [hre, hK] at HR
  rw [hro, hre]
  rw [hK] at HG0
  clear hro hre hK
  obtain ⟨oe, hoe⟩ : ∃ e, opLE p s.1 c lim = e := ⟨_, rfl⟩
  rw [hoe] at HO HSC HWT HP HR
  obtain ⟨n, hn⟩ : ∃ n, c.length = n := ⟨_, rfl⟩
  rw [hn] at HO HSC HLM ⊢
  obtain ⟨g, hg⟩ : ∃ g, scG p s lim c = g := ⟨_, rfl⟩
  rw [hg] at HGN HGS HGG HG0 HGE
  clear hoe hr hrc hlen hlc hn hg
  obtain ⟨s1, sr⟩ := s
  unfold SclPost at HSC
  unfold WtPost at HWT
  dsimp only at HO HSC HWT ⊢
  by_cases h0 : oe = 0
  · subst h0
    rw [if_pos rfl] at HP HR
    replace HSC := zH (fun W k hk hb => HSC.out W k hk rfl hb)
    replace HWT := zH (fun W al cl am cm k hk m hm hrl hrm => HWT.out W al cl am cm k hk m hm rfl hrl hrm)
    go_enter Tryz.func76, Tryz.ntmps76
    go_wp2_with fail
    refine (HO.out _ (bAlloc (bAlloc (bSelf w) _) _)).mono ?_
    intro e w1 hpost
    obtain ⟨al, cl, rfl, hcl, hrd, hb, hfr⟩ := hpost.ex
    have K1 : Hid (Blk w1 (w.heap.size + 1) #[.int .i64 s1, .bool sr]) := zH ((Blk.newAt _ _ _ (by simp)).to hb)
    have HB := zH (bThen (bAlloc (bAlloc (bSelf w) _) _) hb)
    have HRD := zH hrd
    clear hb hrd hpost hfr HO
    go_wp2_with fail
    obtain ⟨w2, hw2⟩ : ∃ u, w1.alloc (.cells (plL p a cap al cl) 170) = u := ⟨_, rfl⟩
    rw [hw2]
    have hb : Below w1.heap.size w1 w2 := by subst hw2; exact bAlloc (bSelf _) _
    have K10 : Hid (Blk w2 w1.heap.size (plL p a cap al cl)) := by subst hw2; exact zH (Blk.new _ _ _)
    replace K1 := zH (K1.out.to hb)
    replace HRD := zH (HRD.out.to hb)
    replace HB := zH (bThen HB.out hb)
    clear hb hw2
    go_loopw [12, 13, 14, 15, 16] (fun s12 _ _ _ _ wr => ∃ k : Nat, s12 = .int .i64 k ∧ k ≤ 201 ∧ Hid (K = scF g k (201 - k)) ∧ Hid (Below w2.heap.size w2 wr)) (fun s12 _ _ _ _ _ => 201 - (intOf s12).toNat)
    case atStart => exact ⟨0, rfl, Nat.zero_le _, HG0, zH (bSelf w2)⟩
    case round =>
      obtain ⟨k, rfl, hk, HQ, HR0⟩ := hrel
      by_cases hlt : k ≤ 200
      · have hlt' : (k : Int) ≤ 200 := by omega
        have HS1 := zH (fun W hb => HSC.out W k hlt hb)
        have HN1 := zH (fun h => HQ.out.trans (HGN.out k hlt h))
        have HS2 := zH (fun m h h2 => HQ.out.trans (HGS.out k hlt m h h2))
        have HG2 := zH (fun m h h2 => HQ.out.trans (HGG.out k hlt m h h2))
        have HW1 := zH (fun W al cl am cm m hm hrl hrm => HWT.out W al cl am cm k hlt m hm hrl hrm)
        have HL1 := zH (fun m h => HLM.out k m h)
        obtain ⟨so, hso⟩ : ∃ o, sclQ (k : Int) c = o := ⟨_, rfl⟩
        rw [hso] at HS1 HN1 HS2 HG2 HW1 HL1
        clear hso HSC HGN HGS HGG HWT HLM HQ
        go_wp2_with fail
        refine (HS1.out _ (bThen HB.out HR0.out)).mono ?_
        rintro e w3 ⟨am, cm, rfl, hcm, hrm, hb⟩
        replace HR0 := zH (bThen HR0.out hb)
        have HRM := zH hrm
        clear hb hrm HS1
        cases so with
        | none =>
          obtain rfl : K = k := HN1.out rfl
          dsimp only [Option.getD_none, Option.isSome_none]
          have hK3 : K = 0 ∨ 1 ≤ K := by omega
          rcases hK3 with hz | hz
          · subst hz
            go_wp2_with (go_at_call 94; refine (oUnless_any _ _ _).mono ?_; rintro e w' ⟨rfl, rfl⟩)
            refine bodyPost_ret (results_tmp2 rfl _ _ _) rfl ?_
            exact ⟨by rw [HP.out, HR.out]; rfl, bThen HB.out HR0.out⟩
          · obtain ⟨x, hx⟩ : ∃ x : Int, (K : Int) = x + 1 := ⟨(K : Int) - 1, by omega⟩
            have e3 : 0 ≤ x := by omega
            have e4 : 0 < x + 1 := by omega
            have e5 : x + 1 - 1 = x := by omega
            have e6 : x ≤ 200 := by omega
            have HP2 : Hid (ro = max 0 x) := zH (by rw [HP.out, hx, e5])
            have HP3 : Hid (ro = x) := zH (by rw [HP2.out]; omega)
            have HR2 : Hid (re = unl true 12) := zH (by rw [HR.out, hx, decide_eq_true e4])
            rw [hx]
            clear HP HR hx
            go_wp2_with (go_at_call 94; refine (oUnless_any _ _ _).mono ?_; rintro e w' ⟨rfl, rfl⟩)
            all_goals
              refine bodyPost_ret (results_tmp2 rfl _ _ _) rfl ?_
              exact ⟨by first | (rw [HP2.out, HR2.out]; rfl) | (rw [HP3.out, HR2.out]; rfl) | (rw [HP3.out, HR2.out, show x = 0 by omega]; rfl), bThen HB.out HR0.out⟩
        | some m =>
          have HW2 := zH (fun W al cl am cm hrl hrm => HW1.out W al cl am cm m rfl hrl hrm)
          have HS3 := zH (fun h2 => HS2.out m rfl h2)
          have HG3 := zH (fun h2 => HG2.out m rfl h2)
          have hml := HL1.out m rfl
          dsimp only [Option.getD_some, Option.isSome_some] at HRM hcm ⊢
          obtain ⟨wi, hwi⟩ : ∃ o, witA p lim (tks p m [((s1, sr), [])]) = o := ⟨_, rfl⟩
          rw [hwi] at HW2 HS3 HG3
          rw [hml] at HW2 HRM hcm ⊢
          clear HW1 HS2 HG2 HN1 HL1 hwi hml
          have K10x := zH (K10.out.to HR0.out)
          have k10 := K10x.out.2.1
          have k1 := (K1.out.to HR0.out).2.1
          go_wp2_with fail
          clear k10 k1
          refine (HW2.out _ al cl am cm (HRD.out.to HR0.out) HRM.out).mono ?_
          rintro e w4 ⟨q, c', rfl, hc', hq, hb, hno⟩
          replace HR0 := zH (bThen HR0.out hb)
          clear hb hq hno HW2 HRM K10x
          cases wi with
          | some o =>
            obtain rfl : K = k := HS3.out rfl
            dsimp only [Option.getD_some, Option.isSome_some]
            have hK3 : K = 0 ∨ 1 ≤ K := by omega
            rcases hK3 with hz | hz
            · subst hz
              go_wp2_with (go_at_call 94; refine (oUnless_any _ _ _).mono ?_; rintro e w' ⟨rfl, rfl⟩)
              refine bodyPost_ret (results_tmp2 rfl _ _ _) rfl ?_
              exact ⟨by rw [HP.out, HR.out]; rfl, bThen HB.out HR0.out⟩
            · obtain ⟨x, hx⟩ : ∃ x : Int, (K : Int) = x + 1 := ⟨(K : Int) - 1, by omega⟩
              have e3 : 0 ≤ x := by omega
              have e4 : 0 < x + 1 := by omega
              have e5 : x + 1 - 1 = x := by omega
              have e6 : x ≤ 200 := by omega
              have HP2 : Hid (ro = max 0 x) := zH (by rw [HP.out, hx, e5])
              have HP3 : Hid (ro = x) := zH (by rw [HP2.out]; omega)
              have HR2 : Hid (re = unl true 12) := zH (by rw [HR.out, hx, decide_eq_true e4])
              rw [hx]
              clear HP HR hx
              go_wp2_with (go_at_call 94; refine (oUnless_any _ _ _).mono ?_; rintro e w' ⟨rfl, rfl⟩)
              all_goals
                refine bodyPost_ret (results_tmp2 rfl _ _ _) rfl ?_
                exact ⟨by first | (rw [HP2.out, HR2.out]; rfl) | (rw [HP3.out, HR2.out]; rfl) | (rw [HP3.out, HR2.out, show x = 0 by omega]; rfl), bThen HB.out HR0.out⟩
          | none =>
            have HQ2 := zH (HG3.out rfl)
            dsimp only [Option.getD_none, Option.isSome_none]
            clear HS3 HG3
            go_wp2_with fail
            go_roundw
            case rel => exact ⟨k + 1, by go_num, by omega, HQ2, HR0⟩
            case measure => simp [intOf]; omega
      · obtain rfl : k = 201 := by omega
        obtain rfl : K = 201 := HQ.out.trans HGE.out
        clear HSC HGN HGS HGG HWT HLM HQ
        go_wp2_with (go_at_call 94; refine (oUnless_any _ _ _).mono ?_; rintro e w' ⟨rfl, rfl⟩)
        refine bodyPost_ret (results_tmp2 rfl _ _ _) rfl ?_
        exact ⟨by rw [HP.out, HR.out]; rfl, bThen HB.out HR0.out⟩
  · have h0' : (oe != 0) = true := by simpa using h0
    rw [if_neg h0] at HP HR
    obtain rfl : ro = 0 := HP.out
    obtain rfl : re = oe := HR.out
    clear h0 HSC HWT HGN HGS HGG HLM HG0 HGE
    go_enter Tryz.func76, Tryz.ntmps76
    go_wp2_with fail
    refine (HO.out _ (bAlloc (bAlloc (bSelf w) _) _)).mono ?_
    intro e w1 hpost
    obtain ⟨al, cl, rfl, hcl, hrd, hb, hfr⟩ := hpost.ex
    have HB := zH (bThen (bAlloc (bAlloc (bSelf w) _) _) hb)
    clear hb hrd hpost hfr HO
    go_wp2_with fail
    refine bodyPost_ret (results_tmp2 rfl _ _ _) rfl ?_
    exact ⟨rfl, bAlloc HB.out _⟩

end Go.Proofs.YtjfedpblkejmkaaGreat

namespace Go.Proofs.YtjfedpblkejmkaaGreat
open Go.RowKit
attribute [local go_sem] Oper.semAt_some

set_option maxHeartbeats 6400000 in
set_option maxRecDepth 100000 in
theorem rScale_any (p : Plt) (s : OSt) (c : List (Int × Int)) (lim : Int) (a ac : Option Addr) (cap cc : Nat) (w : World) (hp : PltOk p) (hs : StOk p s) (hlim : 0 ≤ lim ∧ lim ≤ 1000) (hlc : c.length ≤ 20) (hc : ∀ k, k < c.length → 0 ≤ (fg c k).1 ∧ (fg c k).2 ≤ 50 ∧ (fg c k).1 ≤ (fg c k).2) (hr : Reads w a (p.pts.length * 2) (fracs p.pts)) (hrc : Reads w ac (c.length * 2) (fracs c)) :
    Calls Tryz.prog 80 #[.agg (plC p a cap), .agg #[.int .i64 s.1, .bool s.2], .slice ac c.length cc, .int .i64 lim] w fun e w' => e = .returned (.tuple #[.int .i64 (max 0 ((scK p s c lim : Int) - 1)), .bool (decide ((0 : Int) ≤ (scK p s c lim : Int) - 1))]) ∧ Below w.heap.size w w' := by
  have HSC := zH (fun W (k : Nat) (hk : k ≤ 200) (hb : Below w.heap.size w W) => rScaled_any c k ac cc W hlc hc ⟨by omega, by omega⟩ (hrc.to hb))
  have HPM := zH (fun W am cm (k : Nat) (hk : k ≤ 200) (m : List (Int × Int)) (hm : sclQ k c = some m) (hb : Below w.heap.size w W) hrm => rPermitted_any p s m lim a am cap cm W hp hs hlim (by rw [(sclQ_len hm).1]; exact hlc) (fun j hj => by
    obtain ⟨h1, h2, -⟩ := scl_ok (pc := (k : Int)) ⟨by omega, by omega⟩ hm hc j hj
    exact ⟨h1, h2⟩) (hr.to hb) hrm)
  have HLM : Hid (∀ (k : Nat) m, sclQ k c = some m → m.length = c.length) := zH (fun k m h => (sclQ_len h).1)
  have HGN := zH (fun (k : Nat) (hk : k ≤ 200) h => scF_stop (scG p s lim c) hk (scG_none h))
  have HGS := zH (fun (k : Nat) (hk : k ≤ 200) m (h : sclQ k c = some m) (h2 : prmR p lim [s] m = false) => scF_stop (scG p s lim c) hk ((scG_some h).trans h2))
  have HGG := zH (fun (k : Nat) (hk : k ≤ 200) m (h : sclQ k c = some m) (h2 : prmR p lim [s] m = true) => scF_go (scG p s lim c) hk ((scG_some h).trans h2))
  have HG0 : Hid (scK p s c lim = scF (scG p s lim c) 0 (201 - 0)) := zH rfl
  have HGE : Hid (scF (scG p s lim c) 201 (201 - 201) = 201) := zH rfl
  obtain ⟨K, hK⟩ : ∃ e, scK p s c lim = e := ⟨_, rfl⟩
  rw [hK] at HG0 ⊢
  obtain ⟨ro, hro⟩ : ∃ x, max 0 ((K : Int) - 1) = x := ⟨_, rfl⟩
  obtain ⟨rb, hrb⟩ : ∃ x, decide ((0 : Int) ≤ (K : Int) - 1) = x := ⟨_, rfl⟩
  have HP := zH hro.symm
  have HR := zH hrb.symm
  rw [hro, hrb]
  clear hro hrb
  obtain ⟨n, hn⟩ : ∃ n, c.length = n := ⟨_, rfl⟩
  rw [hn] at HSC HLM ⊢
  obtain ⟨g, hg⟩ : ∃ g, scG p s lim c = g := ⟨_, rfl⟩
  rw [hg] at HGN HGS HGG HG0 HGE
  unfold plC at HPM ⊢
  clear hr hrc hlc hn hg hp hs hlim hc hK
  obtain ⟨s1, sr⟩ := s
  unfold SclPost at HSC
  dsimp only at HPM ⊢
  go_enter Tryz.func80, Tryz.ntmps80
  go_wp2_with fail
  obtain ⟨w2, hW⟩ : ∃ W, (w.alloc (.cells #[.slice a p.pts.length cap, .int .i64 p.pump, .int .i64 p.on, .int .i64 p.off] 44)).alloc (.cells #[.int .i64 s1, .bool sr] 46) = W := ⟨_, rfl⟩
  rw [hW]
  have K4 : Hid (Blk w2 w.heap.size #[.slice a p.pts.length cap, .int .i64 p.pump, .int .i64 p.on, .int .i64 p.off]) := by subst hW; exact zH ((Blk.new _ _ _).alloc _)
  have K5 : Hid (Blk w2 (w.heap.size + 1) #[.int .i64 s1, .bool sr]) := by subst hW; exact zH (Blk.newAt _ _ _ (by simp))
  have HB : Hid (Below w.heap.size w w2) := by subst hW; exact zH (bAlloc (bAlloc (bSelf w) _) _)
  clear hW
  go_loopw [10, 11, 12, 13] (fun s10 s11 _ _ wr => ∃ k : Nat, s10 = .int .i64 ((k : Int) - 1) ∧ s11 = .int .i64 k ∧ k ≤ 201 ∧ Hid (K = scF g k (201 - k)) ∧ Hid (Below w2.heap.size w2 wr)) (fun _ s11 _ _ _ => 201 - (intOf s11).toNat)
  case atStart => exact ⟨0, rfl, rfl, Nat.zero_le _, HG0, zH (bSelf w2)⟩
  case round =>
    obtain ⟨k, rfl, rfl, hk, HQ, HR0⟩ := hrel
    by_cases hlt : k ≤ 200
    · have hlt' : (k : Int) ≤ 200 := by omega
      have HS1 := zH (fun W hb => HSC.out W k hlt hb)
      have HN1 := zH (fun h => HQ.out.trans (HGN.out k hlt h))
      have HS2 := zH (fun m h h2 => HQ.out.trans (HGS.out k hlt m h h2))
      have HG2 := zH (fun m h h2 => HQ.out.trans (HGG.out k hlt m h h2))
      have HW1 := zH (fun W am cm m hm hb hrm => HPM.out W am cm k hlt m hm hb hrm)
      have HL1 := zH (fun m h => HLM.out k m h)
      obtain ⟨so, hso⟩ : ∃ o, sclQ (k : Int) c = o := ⟨_, rfl⟩
      rw [hso] at HS1 HN1 HS2 HG2 HW1 HL1
      clear hso HSC HGN HGS HGG HPM HLM HQ
      go_wp2_with fail
      refine (HS1.out _ (bThen HB.out HR0.out)).mono ?_
      rintro e w3 ⟨am, cm, rfl, hcm, hrm, hb⟩
      replace HR0 := zH (bThen HR0.out hb)
      have HRM := zH hrm
      clear hb hrm HS1
      cases so with
      | none =>
        obtain rfl : K = k := HN1.out rfl
        dsimp only [Option.getD_none, Option.isSome_none]
        have hK3 : K = 0 ∨ K = 1 ∨ 2 ≤ K := by omega
        rcases hK3 with hz | hz | hz
        · subst hz
          go_wp2_with fail
          refine bodyPost_ret (results_tmp2 rfl _ _ _) rfl ?_
          exact ⟨by rw [HP.out, HR.out]; rfl, bThen HB.out HR0.out⟩
        · subst hz
          go_wp2_with fail
          refine bodyPost_ret (results_tmp2 rfl _ _ _) rfl ?_
          exact ⟨by rw [HP.out, HR.out]; rfl, bThen HB.out HR0.out⟩
        · obtain ⟨x, hx⟩ : ∃ x, (K : Int) - 1 = x := ⟨_, rfl⟩
          have e3 : 0 < x := by omega
          have e4 : 0 ≤ x := by omega
          have HP2 : Hid (ro = max 0 x) := zH (HP.out.trans (by rw [hx]))
          have HP3 : Hid (ro = x) := zH (by rw [HP2.out]; omega)
          have HR2 : Hid (rb = true) := zH (HR.out.trans (by rw [decide_eq_true_iff]; omega))
          rw [hx]
          clear HP HR hx
          go_wp2_with fail
          all_goals
            refine bodyPost_ret (results_tmp2 rfl _ _ _) rfl ?_
            exact ⟨by first | (rw [HP2.out, HR2.out]; rfl) | (rw [HP3.out, HR2.out]; rfl) | (rw [HP3.out, HR2.out, show x = 0 by omega]; rfl), bThen HB.out HR0.out⟩
      | some m =>
        have HW2 := zH (fun W am cm hb hrm => HW1.out W am cm m rfl hb hrm)
        have HS3 := zH (fun h2 => HS2.out m rfl h2)
        have HG3 := zH (fun h2 => HG2.out m rfl h2)
        have hml := HL1.out m rfl
        dsimp only [Option.getD_some, Option.isSome_some] at HRM hcm ⊢
        obtain ⟨pb, hpb⟩ : ∃ o, prmR p lim [(s1, sr)] m = o := ⟨_, rfl⟩
        rw [hpb] at HW2 HS3 HG3
        rw [hml] at HW2 HRM hcm ⊢
        clear HW1 HS2 HG2 HN1 HL1 hpb hml
        have k4 := (K4.out.to HR0.out).2.1
        have k5 := (K5.out.to HR0.out).2.1
        go_wp2_with fail
        clear k4 k5
        refine (HW2.out _ am cm (bThen HB.out HR0.out) HRM.out).mono ?_
        rintro e w4 ⟨rfl, hb⟩
        replace HR0 := zH (bThen HR0.out hb)
        clear hb HW2 HRM
        cases pb
        · obtain rfl : K = k := HS3.out rfl
          have hK3 : K = 0 ∨ K = 1 ∨ 2 ≤ K := by omega
          rcases hK3 with hz | hz | hz
          · subst hz
            go_wp2_with fail
            refine bodyPost_ret (results_tmp2 rfl _ _ _) rfl ?_
            exact ⟨by rw [HP.out, HR.out]; rfl, bThen HB.out HR0.out⟩
          · subst hz
            go_wp2_with fail
            refine bodyPost_ret (results_tmp2 rfl _ _ _) rfl ?_
            exact ⟨by rw [HP.out, HR.out]; rfl, bThen HB.out HR0.out⟩
          · obtain ⟨x, hx⟩ : ∃ x, (K : Int) - 1 = x := ⟨_, rfl⟩
            have e3 : 0 < x := by omega
            have e4 : 0 ≤ x := by omega
            have HP2 : Hid (ro = max 0 x) := zH (HP.out.trans (by rw [hx]))
            have HP3 : Hid (ro = x) := zH (by rw [HP2.out]; omega)
            have HR2 : Hid (rb = true) := zH (HR.out.trans (by rw [decide_eq_true_iff]; omega))
            rw [hx]
            clear HP HR hx
            go_wp2_with fail
            all_goals
              refine bodyPost_ret (results_tmp2 rfl _ _ _) rfl ?_
              exact ⟨by first | (rw [HP2.out, HR2.out]; rfl) | (rw [HP3.out, HR2.out]; rfl) | (rw [HP3.out, HR2.out, show x = 0 by omega]; rfl), bThen HB.out HR0.out⟩
        · have HQ2 := zH (HG3.out rfl)
          clear HS3 HG3
          go_wp2_with fail
          go_roundw
          case rel => exact ⟨k + 1, by go_num, by go_num, by omega, HQ2, HR0⟩
          case measure => simp [intOf]; omega
    · obtain rfl : k = 201 := by omega
      obtain rfl : K = 201 := HQ.out.trans HGE.out
      clear HSC HGN HGS HGG HPM HLM HQ
      go_wp2_with fail
      refine bodyPost_ret (results_tmp2 rfl _ _ _) rfl ?_
      exact ⟨by rw [HP.out, HR.out]; rfl, bThen HB.out HR0.out⟩

end Go.Proofs.YtjfedpblkejmkaaGreat

namespace Go.Proofs.YtjfedpblkejmkaaGreat
open Go.RowKit
attribute [local go_sem] Oper.semAt_some

theorem opLE_val (p : Plt) (s : OSt) (c : List (Int × Int)) (lim : Int) : opLE p s.1 c lim = if opCE p s.1 c = 0 then unl (wthn lim 0 1000) 2 else opCE p s.1 c := by
  show firstE [_, _] = _
  unfold firstE
  split
  · unfold firstE
    split
    · rename_i h; rw [h]; rfl
    · rfl
  · rfl
theorem prm_bad {p : Plt} {s : OSt} {c : List (Int × Int)} {lim : Int} (h : opLE p s.1 c lim ≠ 0) :
    (wtnO p s c lim).getD [] = [] ∧ wtnE p s c lim = opLE p s.1 c lim ∧ prmB p s c lim = false ∧ scfO p s c lim = 0 ∧ scfE p s c lim = opLE p s.1 c lim := by
  unfold wtnO wtnE prmB scfO scfE
  rw [if_neg h, if_neg h, if_neg h, if_neg h, if_neg h]
  exact ⟨rfl, rfl, rfl, rfl, rfl⟩
theorem prm_good {p : Plt} {s : OSt} {c : List (Int × Int)} {lim : Int} (h : opLE p s.1 c lim = 0) :
    prmB p s c lim = prmR p lim [s] c ∧ (prmR p lim [s] c = true → (wtnO p s c lim).getD [] = [] ∧ wtnE p s c lim = 12) ∧
    (prmR p lim [s] c = false → wtnE p s c lim = 0 ∧ witA p lim (tks p c [(s, [])]) = some ((wtnO p s c lim).getD [])) := by
  unfold wtnO wtnE prmB
  rw [if_pos h, if_pos h, if_pos h, prm_wit]
  cases hw : witA p lim (tks p c [(s, [])]) with
  | none => exact ⟨rfl, fun _ => ⟨rfl, rfl⟩, fun h => by cases h⟩
  | some wt => exact ⟨rfl, fun h => (by simp at h), fun _ => ⟨rfl, rfl⟩⟩
theorem scl_good {p : Plt} {s : OSt} {c : List (Int × Int)} {lim : Int} (h : opLE p s.1 c lim = 0) :
    (decide ((0 : Int) ≤ (scK p s c lim : Int) - 1) = true → scfE p s c lim = 0 ∧ scfO p s c lim = max 0 ((scK p s c lim : Int) - 1)) ∧
    (decide ((0 : Int) ≤ (scK p s c lim : Int) - 1) = false → scfE p s c lim = 12 ∧ scfO p s c lim = 0) := by
  unfold scfE scfO
  rw [if_pos h, if_pos h]
  constructor
  · intro h1
    rw [decide_eq_true_iff] at h1
    exact ⟨by rw [decide_eq_true (show (0 : Int) < (scK p s c lim : Int) by omega)]; rfl, rfl⟩
  · intro h1
    rw [decide_eq_false_iff_not] at h1
    exact ⟨by rw [decide_eq_false (show ¬ (0 : Int) < (scK p s c lim : Int) by omega)]; rfl, by omega⟩
theorem clss_len {c : List (Int × Int)} (h : clssB c = true) : c.length ≤ 22 := by
  unfold clssB at h
  by_cases h1 : 22 < c.length
  · rw [if_pos h1] at h; cases h
  · omega

set_option maxHeartbeats 12800000 in
set_option maxRecDepth 100000 in
theorem OilPermitted_any (p : Plt) (s : OSt) (c : List (Int × Int)) (lim : Int) (a ac : Option Addr) (cap cc : Nat) (w : World) (hlc : c.length ≤ maxLen) (hcc : c.length ≤ cc) (hr : Reads w a (p.pts.length * 2) (fracs p.pts)) (hrc : Reads w ac (c.length * 2) (fracs c)) :
    Calls Tryz.prog 12 #[.agg (plC p a cap), .agg #[.int .i64 s.1, .bool s.2], .agg #[.slice ac c.length cc, .int .i64 lim]] w fun e w' => e = .returned (.bool true) ∧ Below w.heap.size w w' := by
  have HAW := zH (fun W => oAwake_any W)
  have HFW := zH (fun W => lFew_any p a cap W)
  have HCL := zH (fun W (hb : Below w.heap.size w W) => lClasses_any c ac cc W (hrc.to hb))
  have HC22 : Hid (clssB c = true → c.length ≤ 22) := zH (fun h => clss_len h)
  have HOE := zH (fun W (h10 : p.pts.length ≤ 10) (hb : Below w.heap.size w W) => lOpenErr_any p s c a ac cap cc W (by omega) (hr.to hb) (hrc.to hb))
  have HSH := zH (fun W (h0 : (chCl c).2 = 0) (hb : Below w.heap.size w W) => lShort_any c ac cc W h0 (hrc.to hb))
  have HLM := zH (fun W => rLimitErr_any lim W)
  have HCE : Hid (opCE p s.1 c = 0 → (chCl c).2 = 0) := zH (fun h => (firstE2.1 (show firstE [_, _] = 0 from h)).2)
  have HCPY := zH (fun W (h10 : p.pts.length ≤ 10) (hb : Below w.heap.size w W) => rCopyPlant_any p a cap W (by omega) (hr.to hb))
  have HCR := zH (fun W (h3 : c.length ≤ 22) (hb : Below w.heap.size w W) => CopyRanges_any c ac cc W (by omega) (hrc.to hb))
  have HWT := zH (fun W a1 c1 a2 c2 (h10 : p.pts.length ≤ 10) h1 h2 => WitnessOf_any p s c lim a1 a2 c1 c2 W (by omega) hlc h2 h1)
  have HPB := zH (fun W a1 c1 a2 c2 (h10 : p.pts.length ≤ 10) h1 h2 => IsPermitted_any p s c lim a1 a2 c1 c2 W (by omega) hlc h2 h1)
  have HSF := zH (fun W a1 c1 a2 c2 (h10 : p.pts.length ≤ 10) h1 h2 => ScaleFor_any p s c lim a1 a2 c1 c2 W (by omega) hlc h2 h1)
  have HRP := zH (fun W (h : opLE p s.1 c lim = 0) (hb : Below w.heap.size w W) => rPermitted_any p s c lim a ac cap cc W (opLE_ok h).1.1 (opLE_ok h).1.2.1 (wthn_iff.1 ((unlZ (by decide)).1 (opLE_parts h).2.2)) (opLE_ok h).1.2.2.1 (fun k hk => ⟨((opLE_ok h).1.2.2.2 k hk).1, ((opLE_ok h).1.2.2.2 k hk).2.1⟩) (hr.to hb) (hrc.to hb))
  have HRW := zH (fun W wt (h : opLE p s.1 c lim = 0) (hw : witA p lim (tks p c [(s, [])]) = some wt) (hb : Below w.heap.size w W) => rWitness_any p s c lim wt a ac cap cc W (opLE_ok h).1.1 (opLE_ok h).1.2.1 (wthn_iff.1 ((unlZ (by decide)).1 (opLE_parts h).2.2)) (opLE_ok h).1.2.2.1 hcc (opLE_ok h).1.2.2.2 hw (hr.to hb) (hrc.to hb))
  have HRS := zH (fun W (h : opLE p s.1 c lim = 0) (hb : Below w.heap.size w W) => rScale_any p s c lim a ac cap cc W (opLE_ok h).1.1 (opLE_ok h).1.2.1 (wthn_iff.1 ((unlZ (by decide)).1 (opLE_parts h).2.2)) (opLE_ok h).1.2.2.1 (opLE_ok h).1.2.2.2 (hr.to hb) (hrc.to hb))
  have HLV := zH (opLE_val p s c lim)
  have HBAD := zH (fun (h : opLE p s.1 c lim ≠ 0) => prm_bad h)
  have HGD := zH (fun (h : opLE p s.1 c lim = 0) => prm_good h)
  have HSG := zH (fun (h : opLE p s.1 c lim = 0) => scl_good h)
  have HWL := zH (fun wt (h : opLE p s.1 c lim = 0) (hw : witA p lim (tks p c [(s, [])]) = some wt) => (show wt.length ≤ 20 from Nat.le_trans (wit_ref hw).1 (opLE_ok h).1.2.2.1))
  obtain ⟨m, hm⟩ : ∃ n, p.pts.length = n := ⟨_, rfl⟩
  obtain ⟨n, hn⟩ : ∃ n, c.length = n := ⟨_, rfl⟩
  obtain ⟨b1, hb1⟩ : ∃ b, clssB c = b := ⟨_, rfl⟩
  obtain ⟨b2, hb2⟩ : ∃ b, shrtB c = b := ⟨_, rfl⟩
  obtain ⟨oe, hoe⟩ : ∃ b, opCE p s.1 c = b := ⟨_, rfl⟩
  obtain ⟨le, hle⟩ : ∃ b, unl (wthn lim 0 1000) 2 = b := ⟨_, rfl⟩
  obtain ⟨oe2, hoe2⟩ : ∃ b, opLE p s.1 c lim = b := ⟨_, rfl⟩
  obtain ⟨ro, hro⟩ : ∃ b, (wtnO p s c lim).getD [] = b := ⟨_, rfl⟩
  obtain ⟨re, hre⟩ : ∃ b, wtnE p s c lim = b := ⟨_, rfl⟩
  obtain ⟨rb, hrb⟩ : ∃ b, prmB p s c lim = b := ⟨_, rfl⟩
  obtain ⟨sO, hsO⟩ : ∃ b, scfO p s c lim = b := ⟨_, rfl⟩
  obtain ⟨sE, hsE⟩ : ∃ b, scfE p s c lim = b := ⟨_, rfl⟩
  obtain ⟨wb, hwb⟩ : ∃ b, prmR p lim [s] c = b := ⟨_, rfl⟩
  obtain ⟨mx, hmx⟩ : ∃ b, max 0 ((scK p s c lim : Int) - 1) = b := ⟨_, rfl⟩
  obtain ⟨sb, hsb⟩ : ∃ b, decide ((0 : Int) ≤ (scK p s c lim : Int) - 1) = b := ⟨_, rfl⟩
  have HM := zH hm
  have HN := zH hn
  rw [hm] at HFW HOE HCPY HWT HPB HSF
  rw [hb1] at HCL HC22
  rw [hb2] at HSH
  rw [hoe] at HOE HCE HLV
  rw [hle] at HLM HLV
  rw [hoe2] at HPB HRP HRW HRS HLV HBAD HGD HSG HWL
  rw [hro] at HWT HBAD HGD
  rw [hre] at HWT HBAD HGD
  rw [hrb] at HPB HBAD HGD
  rw [hsO] at HSF HBAD HSG
  rw [hsE] at HSF HBAD HSG
  rw [hwb] at HRP HGD
  rw [hmx] at HRS HSG
  rw [hsb] at HRS HSG
  rw [hn] at HCL HC22 HOE HSH HCR HWT HPB HSF HRP HRW HRS hcc ⊢
  unfold WirPost at HRW
  clear hn hb1 hb2 hoe hle hoe2 hro hre hrb hsO hsE hwb hmx hsb hr hrc hlc
  obtain ⟨s1, sr⟩ := s
  unfold plC at HFW HOE HCPY HWT HPB HSF HRP HRW HRS ⊢
  dsimp only at HFW HOE HCPY HWT HPB HSF HRP HRW HRS ⊢
  rw [hm] at HFW HOE HCPY HWT HPB HSF HRP HRW HRS ⊢
  clear hm
  go_enter Tryz.func12, Tryz.ntmps12
  go_wp2_with fail
  obtain ⟨W, hW⟩ : ∃ W, ((w.alloc (.cells #[.slice a m cap, .int .i64 p.pump, .int .i64 p.on, .int .i64 p.off] 44)).alloc (.cells #[.int .i64 s1, .bool sr] 46)).alloc (.cells #[.slice ac n cc, .int .i64 lim] 124) = W := ⟨_, rfl⟩
  rw [hW]
  have K3 : Hid (Blk W w.heap.size #[.slice a m cap, .int .i64 p.pump, .int .i64 p.on, .int .i64 p.off]) := by subst hW; exact zH (((Blk.new _ _ _).alloc _).alloc _)
  have K4 : Hid (Blk W (w.heap.size + 1) #[.int .i64 s1, .bool sr]) := by subst hW; exact zH ((Blk.newAt _ _ _ (by simp)).alloc _)
  have K5 : Hid (Blk W (w.heap.size + 1 + 1) #[.slice ac n cc, .int .i64 lim]) := by subst hW; exact zH (Blk.newAt _ _ _ (by simp))
  have HB : Hid (Below w.heap.size w W) := by subst hW; exact zH (bAlloc (bAlloc (bAlloc (bSelf w) _) _) _)
  clear hW
  refine (HAW.out _).mono ?_
  rintro e y1 ⟨rfl, hb⟩
  replace K3 := zH (K3.out.to hb)
  replace K4 := zH (K4.out.to hb)
  replace K5 := zH (K5.out.to hb)
  replace HB := zH (bThen HB.out hb)
  clear hb HAW
  go_upto_region 3 with (fail)
  go_cut [41] from 19 to 40 (fun s41 wc => ∃ b, s41 = .bool b ∧ (b = false → m ≤ 10 ∧ n ≤ 22 ∧ (oe = 0 → b2 = true)) ∧ Hid (Below y1.heap.size y1 wc))
  case first =>
    have HY : Hid (Below y1.heap.size y1 y1) := zH (Below.refl _ _)
    obtain ⟨-, k3, -⟩ := K3.out
    go_wp2_with fail
    clear k3
    refine (HFW.out _).mono ?_
    rintro e y2 ⟨rfl, hb⟩
    replace K3 := zH (K3.out.to hb)
    replace K4 := zH (K4.out.to hb)
    replace K5 := zH (K5.out.to hb)
    replace HB := zH (bThen HB.out hb)
    replace HY := zH (bThen HY.out hb)
    clear hb
    by_cases h10 : m ≤ 10
    case neg =>
      rw [decide_eq_false (show ¬ ((m : Int) ≤ 10) by omega)]
      go_wp2_with fail
      go_meet
      case rel => exact ⟨true, rfl, fun h => (by cases h), HY⟩
    rw [decide_eq_true (show ((m : Int) ≤ 10) by omega)]
    obtain ⟨-, k5, -⟩ := K5.out
    go_wp2_with fail
    clear k5
    refine (HCL.out _ HB.out).mono ?_
    rintro e y3 ⟨rfl, hb⟩
    replace K3 := zH (K3.out.to hb)
    replace K4 := zH (K4.out.to hb)
    replace K5 := zH (K5.out.to hb)
    replace HB := zH (bThen HB.out hb)
    replace HY := zH (bThen HY.out hb)
    clear hb
    cases b1
    case false =>
      go_wp2_with fail
      go_meet
      case rel => exact ⟨true, rfl, fun h => (by cases h), HY⟩
    have h22 := HC22.out (by first | rfl | trivial)
    obtain ⟨-, k3, -⟩ := K3.out
    obtain ⟨-, k4, -⟩ := K4.out
    obtain ⟨-, k5, -⟩ := K5.out
    go_wp2_with fail
    clear k3 k4 k5
    refine (HOE.out _ h10 HB.out).mono ?_
    rintro e y4 ⟨rfl, hb⟩
    replace K3 := zH (K3.out.to hb)
    replace K4 := zH (K4.out.to hb)
    replace K5 := zH (K5.out.to hb)
    replace HB := zH (bThen HB.out hb)
    replace HY := zH (bThen HY.out hb)
    clear hb
    by_cases h0 : oe = 0
    case neg =>
      have h0' : (oe == 0) = false := by simpa using h0
      go_wp2_with fail
      go_meet
      case rel => exact ⟨_, rfl, fun _ => ⟨h10, h22, fun h => absurd h h0⟩, HY⟩
    subst h0
    obtain ⟨-, k5, -⟩ := K5.out
    go_wp2_with fail
    clear k5
    refine (HSH.out _ (HCE.out (by first | rfl | trivial)) HB.out).mono ?_
    rintro e y5 ⟨rfl, hb⟩
    replace K3 := zH (K3.out.to hb)
    replace K4 := zH (K4.out.to hb)
    replace K5 := zH (K5.out.to hb)
    replace HB := zH (bThen HB.out hb)
    replace HY := zH (bThen HY.out hb)
    clear hb
    cases b2
    case false =>
      go_wp2_with fail
      go_meet
      case rel => exact ⟨true, rfl, fun h => (by cases h), HY⟩
    go_wp2_with fail
    go_meet
    case rel => exact ⟨_, rfl, fun _ => ⟨h10, h22, by intro _; first | rfl | trivial⟩, HY⟩
  obtain ⟨y6, hwo⟩ : ∃ wo, wo = wc := ⟨_, rfl⟩
  subst hwo
  obtain ⟨b, rfl, hbb, hb⟩ := hcut
  replace hb := hb.out
  replace K3 := zH (K3.out.to hb)
  replace K4 := zH (K4.out.to hb)
  replace K5 := zH (K5.out.to hb)
  replace HB := zH (bThen HB.out hb)
  clear hb HFW HCL HC22 HSH HCE
  cases b
  case true =>
    go_wp2_with fail
    go_ret
    exact ⟨rfl, HB.out⟩
  obtain ⟨h10, h22, -⟩ := hbb rfl
  replace HCPY := zH (fun W => HCPY.out W h10)
  replace HOE := zH (fun W => HOE.out W h10)
  replace HCR := zH (fun W => HCR.out W h22)
  replace HWT := zH (fun W a1 c1 a2 c2 => HWT.out W a1 c1 a2 c2 h10)
  replace HPB := zH (fun W a1 c1 a2 c2 => HPB.out W a1 c1 a2 c2 h10)
  replace HSF := zH (fun W a1 c1 a2 c2 => HSF.out W a1 c1 a2 c2 h10)
  clear hbb
  go_wp2_with fail
  refine wp_region_tree (by kernel_rfl) (fun wd hwd => ?_)
  have T := zH hwd
  clear hwd
  refine WT_yes 0 rfl (by kernel_rfl) (fun _ _ _ _ _ h => h) (by rfl) ?_; apply Exists.intro; refine ⟨fun w1 hb1 => ?_, ?_⟩; (focus (((obtain ⟨-, k3, -⟩ := K3.out.to (T.out.trans hb1)); have hb1 := zH hb1; go_simp); (try (go_bits; try go_simp)); (try (rw [if_pos (by omega)]; try go_simp)); (first | done | (with_reducible rfl) | exact rfl)))
  simp only [Act.put, zzT, zzO, zzS]
  refine WT_yes 2 rfl (by kernel_rfl) (fun _ _ _ _ _ h => h) (by rfl) ?_; apply Exists.intro; refine ⟨fun w1 hb1 => ?_, ?_⟩; (focus (((obtain ⟨-, k4, -⟩ := K4.out.to (T.out.trans hb1)); have hb1 := zH hb1; go_simp); (try (go_bits; try go_simp)); (try (rw [if_pos (by omega)]; try go_simp)); (first | done | (with_reducible rfl) | exact rfl)))
  simp only [Act.put, zzT, zzO, zzS]
  refine WT_yes 3 rfl (by kernel_rfl) (fun _ _ _ _ _ h => h) (by rfl) ?_; apply Exists.intro; refine ⟨fun w1 hb1 => ?_, ?_⟩; (focus (((obtain ⟨-, k5, -⟩ := K5.out.to (T.out.trans hb1)); have hb1 := zH hb1; go_simp); (try (go_bits; try go_simp)); (try (rw [if_pos (by omega)]; try go_simp)); (first | done | (with_reducible rfl) | exact rfl)))
  simp only [Act.put, zzT, zzO, zzS]
  refine WT_yes 4 rfl (by kernel_rfl) (fun _ _ _ _ _ h => h) (by rfl) ?_; apply Exists.intro; refine ⟨fun w1 hb1 => ?_, ?_⟩; (focus (((obtain ⟨-, k5, -⟩ := K5.out.to (T.out.trans hb1)); have hb1 := zH hb1; go_simp); (try (go_bits; try go_simp)); (try (rw [if_pos (by omega)]; try go_simp)); (first | done | (with_reducible rfl) | exact rfl)))
  simp only [Act.put, zzT, zzO, zzS]
  refine WT_yes 6 rfl (by kernel_rfl) (fun _ _ _ _ _ h => h) (by rfl) ?_; apply Exists.intro; refine ⟨fun w1 hb1 => ?_, ?_⟩; (focus (((obtain ⟨-, k5, -⟩ := K5.out.to (T.out.trans hb1)); have hb1 := zH hb1; go_simp); (try (go_bits; try go_simp)); (try (rw [if_pos (by omega)]; try go_simp)); (first | done | (with_reducible rfl) | exact rfl)))
  simp only [Act.put, zzT, zzO, zzS]
  refine WT_yes 7 rfl (by kernel_rfl) (fun _ _ _ _ _ h => h) (by rfl) ?_; apply Exists.intro; refine ⟨fun w1 hb1 => ?_, ?_⟩; (focus (((obtain ⟨-, k5, -⟩ := K5.out.to (T.out.trans hb1)); have hb1 := zH hb1; go_simp); (try (go_bits; try go_simp)); (try (rw [if_pos (by omega)]; try go_simp)); (first | done | (with_reducible rfl) | exact rfl)))
  simp only [Act.put, zzT, zzO, zzS]
  refine WT_one 1 rfl (by kernel_rfl) ?_
  unfold stepT
  go_wp2_with fail
  refine (HCPY.out _ (bThen HB.out T.out)).mono ?_
  rintro e g1 ⟨a1, c1, rfl, -, hr1, hb, -⟩
  have HR1 := zH hr1
  clear hr1
  unfold plC
  rw [HM.out] at HR1 ⊢
  have hbd := zH (hb.mono T.out.size)
  replace T := zH (bThen T.out hb)
  clear hb
  go_wp2_with fail
  refine ⟨hbd.out, ?_⟩
  clear hbd
  refine WT_one 5 rfl (by kernel_rfl) ?_
  unfold stepT
  go_wp2_with fail
  refine (HCR.out _ (bThen HB.out T.out)).mono ?_
  rintro e g2 ⟨a2, c2, rfl, -, hr2, hb, -⟩
  have HR2 := zH hr2
  clear hr2
  replace HR1 := zH (HR1.out.to hb)
  have hbd := zH (hb.mono T.out.size)
  replace T := zH (bThen T.out hb)
  clear hb
  go_wp2_with fail
  refine ⟨hbd.out, ?_⟩
  clear hbd
  refine WT_one 8 rfl (by kernel_rfl) ?_
  unfold stepT
  go_wp2_with fail
  refine (HWT.out _ _ _ _ _ HR1.out HR2.out).mono ?_
  rintro e g3 ⟨aR, cR, rfl, hcR, hrR, hb, -⟩
  have HRR := zH hrR
  clear hrR HR1 HR2 hcR
  have hbd := zH (hb.mono T.out.size)
  replace T := zH (bThen T.out hb)
  clear hb
  go_wp2_with fail
  refine ⟨hbd.out, ?_⟩
  clear hbd
  refine WT_yes 9 rfl (by kernel_rfl) (fun _ _ _ _ _ h => h) (by rfl) ?_; apply Exists.intro; refine ⟨fun w1 hb1 => ?_, ?_⟩; (focus ((have hb1 := zH hb1; go_simp); (try (go_bits; try go_simp)); (try (rw [if_pos (by omega)]; try go_simp)); (first | done | (with_reducible rfl) | exact rfl)))
  simp only [Act.put, zzT, zzO, zzS]
  refine WT_yes 10 rfl (by kernel_rfl) (fun _ _ _ _ _ h => h) (by rfl) ?_; apply Exists.intro; refine ⟨fun w1 hb1 => ?_, ?_⟩; (focus ((have hb1 := zH hb1; go_simp); (try (go_bits; try go_simp)); (try (rw [if_pos (by omega)]; try go_simp)); (first | done | (with_reducible rfl) | exact rfl)))
  simp only [Act.put, zzT, zzO, zzS]
  refine WT_yes 11 rfl (by kernel_rfl) (fun _ _ _ _ _ h => h) (by rfl) ?_; apply Exists.intro; refine ⟨fun w1 hb1 => ?_, ?_⟩; (focus ((have hb1 := zH hb1; go_simp); (try (go_bits; try go_simp)); (try (rw [if_pos (by omega)]; try go_simp)); (first | done | (with_reducible rfl) | exact rfl)))
  simp only [Act.put, zzT, zzO, zzS]
  refine WT_yes 12 rfl (by kernel_rfl) (fun _ _ _ _ _ h => h) (by rfl) ?_; apply Exists.intro; refine ⟨fun w1 hb1 => ?_, ?_⟩; (focus ((have hb1 := zH hb1; go_simp); (try (go_bits; try go_simp)); (try (rw [if_pos (by omega)]; try go_simp)); (first | done | (with_reducible rfl) | exact rfl)))
  simp only [Act.put, zzT, zzO, zzS]
  refine WT_yes 13 rfl (by kernel_rfl) (fun _ _ _ _ _ h => h) (by rfl) ?_; apply Exists.intro; refine ⟨fun w1 hb1 => ?_, ?_⟩; (focus ((have hb1 := zH hb1; go_simp); (try (go_bits; try go_simp)); (try (rw [if_pos (by omega)]; try go_simp)); (first | done | (with_reducible rfl) | exact rfl)))
  simp only [Act.put, zzT, zzO, zzS]
  refine WT_done (by kernel_rfl) ?_
  replace HB := zH (bThen HB.out T.out)
  replace K3 := zH (K3.out.to T.out)
  replace K4 := zH (K4.out.to T.out)
  replace K5 := zH (K5.out.to T.out)
  clear T
  clear HWT
  go_wp2_with fail
  refine wp_region_tree (by kernel_rfl) (fun wd hwd => ?_)
  have T := zH hwd
  clear hwd
  refine WT_yes 0 rfl (by kernel_rfl) (fun _ _ _ _ _ h => h) (by rfl) ?_; apply Exists.intro; refine ⟨fun w1 hb1 => ?_, ?_⟩; (focus (((obtain ⟨-, k3, -⟩ := K3.out.to (T.out.trans hb1)); have hb1 := zH hb1; go_simp); (try (go_bits; try go_simp)); (try (rw [if_pos (by omega)]; try go_simp)); (first | done | (with_reducible rfl) | exact rfl)))
  simp only [Act.put, zzT, zzO, zzS]
  refine WT_yes 2 rfl (by kernel_rfl) (fun _ _ _ _ _ h => h) (by rfl) ?_; apply Exists.intro; refine ⟨fun w1 hb1 => ?_, ?_⟩; (focus (((obtain ⟨-, k4, -⟩ := K4.out.to (T.out.trans hb1)); have hb1 := zH hb1; go_simp); (try (go_bits; try go_simp)); (try (rw [if_pos (by omega)]; try go_simp)); (first | done | (with_reducible rfl) | exact rfl)))
  simp only [Act.put, zzT, zzO, zzS]
  refine WT_yes 3 rfl (by kernel_rfl) (fun _ _ _ _ _ h => h) (by rfl) ?_; apply Exists.intro; refine ⟨fun w1 hb1 => ?_, ?_⟩; (focus (((obtain ⟨-, k5, -⟩ := K5.out.to (T.out.trans hb1)); have hb1 := zH hb1; go_simp); (try (go_bits; try go_simp)); (try (rw [if_pos (by omega)]; try go_simp)); (first | done | (with_reducible rfl) | exact rfl)))
  simp only [Act.put, zzT, zzO, zzS]
  refine WT_yes 4 rfl (by kernel_rfl) (fun _ _ _ _ _ h => h) (by rfl) ?_; apply Exists.intro; refine ⟨fun w1 hb1 => ?_, ?_⟩; (focus (((obtain ⟨-, k5, -⟩ := K5.out.to (T.out.trans hb1)); have hb1 := zH hb1; go_simp); (try (go_bits; try go_simp)); (try (rw [if_pos (by omega)]; try go_simp)); (first | done | (with_reducible rfl) | exact rfl)))
  simp only [Act.put, zzT, zzO, zzS]
  refine WT_yes 6 rfl (by kernel_rfl) (fun _ _ _ _ _ h => h) (by rfl) ?_; apply Exists.intro; refine ⟨fun w1 hb1 => ?_, ?_⟩; (focus (((obtain ⟨-, k5, -⟩ := K5.out.to (T.out.trans hb1)); have hb1 := zH hb1; go_simp); (try (go_bits; try go_simp)); (try (rw [if_pos (by omega)]; try go_simp)); (first | done | (with_reducible rfl) | exact rfl)))
  simp only [Act.put, zzT, zzO, zzS]
  refine WT_yes 7 rfl (by kernel_rfl) (fun _ _ _ _ _ h => h) (by rfl) ?_; apply Exists.intro; refine ⟨fun w1 hb1 => ?_, ?_⟩; (focus (((obtain ⟨-, k5, -⟩ := K5.out.to (T.out.trans hb1)); have hb1 := zH hb1; go_simp); (try (go_bits; try go_simp)); (try (rw [if_pos (by omega)]; try go_simp)); (first | done | (with_reducible rfl) | exact rfl)))
  simp only [Act.put, zzT, zzO, zzS]
  refine WT_one 1 rfl (by kernel_rfl) ?_
  unfold stepT
  go_wp2_with fail
  refine (HCPY.out _ (bThen HB.out T.out)).mono ?_
  rintro e g4 ⟨a1, c1, rfl, -, hr1, hb, -⟩
  have HR1 := zH hr1
  clear hr1
  unfold plC
  rw [HM.out] at HR1 ⊢
  have hbd := zH (hb.mono T.out.size)
  replace T := zH (bThen T.out hb)
  clear hb
  go_wp2_with fail
  refine ⟨hbd.out, ?_⟩
  clear hbd
  refine WT_one 5 rfl (by kernel_rfl) ?_
  unfold stepT
  go_wp2_with fail
  refine (HCR.out _ (bThen HB.out T.out)).mono ?_
  rintro e g5 ⟨a2, c2, rfl, -, hr2, hb, -⟩
  have HR2 := zH hr2
  clear hr2
  replace HR1 := zH (HR1.out.to hb)
  have hbd := zH (hb.mono T.out.size)
  replace T := zH (bThen T.out hb)
  clear hb
  go_wp2_with fail
  refine ⟨hbd.out, ?_⟩
  clear hbd
  refine WT_one 8 rfl (by kernel_rfl) ?_
  unfold stepT
  go_wp2_with fail
  refine (HPB.out _ _ _ _ _ HR1.out HR2.out).mono ?_
  rintro e g6 ⟨rfl, hb⟩
  clear HR1 HR2
  have hbd := zH (hb.mono T.out.size)
  replace T := zH (bThen T.out hb)
  clear hb
  go_wp2_with fail
  refine ⟨hbd.out, ?_⟩
  clear hbd
  refine WT_yes 9 rfl (by kernel_rfl) (fun _ _ _ _ _ h => h) (by rfl) ?_; apply Exists.intro; refine ⟨fun w1 hb1 => ?_, ?_⟩; (focus ((have hb1 := zH hb1; go_simp); (try (go_bits; try go_simp)); (try (rw [if_pos (by omega)]; try go_simp)); (first | done | (with_reducible rfl) | exact rfl)))
  simp only [Act.put, zzT, zzO, zzS]
  refine WT_yes 10 rfl (by kernel_rfl) (fun _ _ _ _ _ h => h) (by rfl) ?_; apply Exists.intro; refine ⟨fun w1 hb1 => ?_, ?_⟩; (focus ((have hb1 := zH hb1; go_simp); (try (go_bits; try go_simp)); (try (rw [if_pos (by omega)]; try go_simp)); (first | done | (with_reducible rfl) | exact rfl)))
  simp only [Act.put, zzT, zzO, zzS]
  refine WT_yes 11 rfl (by kernel_rfl) (fun _ _ _ _ _ h => h) (by rfl) ?_; apply Exists.intro; refine ⟨fun w1 hb1 => ?_, ?_⟩; (focus ((have hb1 := zH hb1; go_simp); (try (go_bits; try go_simp)); (try (rw [if_pos (by omega)]; try go_simp)); (first | done | (with_reducible rfl) | exact rfl)))
  simp only [Act.put, zzT, zzO, zzS]
  refine WT_yes 12 rfl (by kernel_rfl) (fun _ _ _ _ _ h => h) (by rfl) ?_; apply Exists.intro; refine ⟨fun w1 hb1 => ?_, ?_⟩; (focus ((have hb1 := zH hb1; go_simp); (try (go_bits; try go_simp)); (try (rw [if_pos (by omega)]; try go_simp)); (first | done | (with_reducible rfl) | exact rfl)))
  simp only [Act.put, zzT, zzO, zzS]
  refine WT_yes 13 rfl (by kernel_rfl) (fun _ _ _ _ _ h => h) (by rfl) ?_; apply Exists.intro; refine ⟨fun w1 hb1 => ?_, ?_⟩; (focus ((have hb1 := zH hb1; go_simp); (try (go_bits; try go_simp)); (try (rw [if_pos (by omega)]; try go_simp)); (first | done | (with_reducible rfl) | exact rfl)))
  simp only [Act.put, zzT, zzO, zzS]
  refine WT_done (by kernel_rfl) ?_
  replace HB := zH (bThen HB.out T.out)
  replace K3 := zH (K3.out.to T.out)
  replace K4 := zH (K4.out.to T.out)
  replace K5 := zH (K5.out.to T.out)
  replace HRR := zH (HRR.out.to T.out)
  clear T
  clear HPB
  go_wp2_with fail
  refine wp_region_tree (by kernel_rfl) (fun wd hwd => ?_)
  have T := zH hwd
  clear hwd
  refine WT_yes 0 rfl (by kernel_rfl) (fun _ _ _ _ _ h => h) (by rfl) ?_; apply Exists.intro; refine ⟨fun w1 hb1 => ?_, ?_⟩; (focus (((obtain ⟨-, k3, -⟩ := K3.out.to (T.out.trans hb1)); have hb1 := zH hb1; go_simp); (try (go_bits; try go_simp)); (try (rw [if_pos (by omega)]; try go_simp)); (first | done | (with_reducible rfl) | exact rfl)))
  simp only [Act.put, zzT, zzO, zzS]
  refine WT_yes 2 rfl (by kernel_rfl) (fun _ _ _ _ _ h => h) (by rfl) ?_; apply Exists.intro; refine ⟨fun w1 hb1 => ?_, ?_⟩; (focus (((obtain ⟨-, k4, -⟩ := K4.out.to (T.out.trans hb1)); have hb1 := zH hb1; go_simp); (try (go_bits; try go_simp)); (try (rw [if_pos (by omega)]; try go_simp)); (first | done | (with_reducible rfl) | exact rfl)))
  simp only [Act.put, zzT, zzO, zzS]
  refine WT_yes 3 rfl (by kernel_rfl) (fun _ _ _ _ _ h => h) (by rfl) ?_; apply Exists.intro; refine ⟨fun w1 hb1 => ?_, ?_⟩; (focus (((obtain ⟨-, k5, -⟩ := K5.out.to (T.out.trans hb1)); have hb1 := zH hb1; go_simp); (try (go_bits; try go_simp)); (try (rw [if_pos (by omega)]; try go_simp)); (first | done | (with_reducible rfl) | exact rfl)))
  simp only [Act.put, zzT, zzO, zzS]
  refine WT_yes 4 rfl (by kernel_rfl) (fun _ _ _ _ _ h => h) (by rfl) ?_; apply Exists.intro; refine ⟨fun w1 hb1 => ?_, ?_⟩; (focus (((obtain ⟨-, k5, -⟩ := K5.out.to (T.out.trans hb1)); have hb1 := zH hb1; go_simp); (try (go_bits; try go_simp)); (try (rw [if_pos (by omega)]; try go_simp)); (first | done | (with_reducible rfl) | exact rfl)))
  simp only [Act.put, zzT, zzO, zzS]
  refine WT_yes 6 rfl (by kernel_rfl) (fun _ _ _ _ _ h => h) (by rfl) ?_; apply Exists.intro; refine ⟨fun w1 hb1 => ?_, ?_⟩; (focus (((obtain ⟨-, k5, -⟩ := K5.out.to (T.out.trans hb1)); have hb1 := zH hb1; go_simp); (try (go_bits; try go_simp)); (try (rw [if_pos (by omega)]; try go_simp)); (first | done | (with_reducible rfl) | exact rfl)))
  simp only [Act.put, zzT, zzO, zzS]
  refine WT_yes 7 rfl (by kernel_rfl) (fun _ _ _ _ _ h => h) (by rfl) ?_; apply Exists.intro; refine ⟨fun w1 hb1 => ?_, ?_⟩; (focus (((obtain ⟨-, k5, -⟩ := K5.out.to (T.out.trans hb1)); have hb1 := zH hb1; go_simp); (try (go_bits; try go_simp)); (try (rw [if_pos (by omega)]; try go_simp)); (first | done | (with_reducible rfl) | exact rfl)))
  simp only [Act.put, zzT, zzO, zzS]
  refine WT_one 1 rfl (by kernel_rfl) ?_
  unfold stepT
  go_wp2_with fail
  refine (HCPY.out _ (bThen HB.out T.out)).mono ?_
  rintro e g7 ⟨a1, c1, rfl, -, hr1, hb, -⟩
  have HR1 := zH hr1
  clear hr1
  unfold plC
  rw [HM.out] at HR1 ⊢
  have hbd := zH (hb.mono T.out.size)
  replace T := zH (bThen T.out hb)
  clear hb
  go_wp2_with fail
  refine ⟨hbd.out, ?_⟩
  clear hbd
  refine WT_one 5 rfl (by kernel_rfl) ?_
  unfold stepT
  go_wp2_with fail
  refine (HCR.out _ (bThen HB.out T.out)).mono ?_
  rintro e g8 ⟨a2, c2, rfl, -, hr2, hb, -⟩
  have HR2 := zH hr2
  clear hr2
  replace HR1 := zH (HR1.out.to hb)
  have hbd := zH (hb.mono T.out.size)
  replace T := zH (bThen T.out hb)
  clear hb
  go_wp2_with fail
  refine ⟨hbd.out, ?_⟩
  clear hbd
  refine WT_one 8 rfl (by kernel_rfl) ?_
  unfold stepT
  go_wp2_with fail
  refine (HSF.out _ _ _ _ _ HR1.out HR2.out).mono ?_
  rintro e g9 ⟨rfl, hb⟩
  clear HR1 HR2
  have hbd := zH (hb.mono T.out.size)
  replace T := zH (bThen T.out hb)
  clear hb
  go_wp2_with fail
  refine ⟨hbd.out, ?_⟩
  clear hbd
  refine WT_yes 9 rfl (by kernel_rfl) (fun _ _ _ _ _ h => h) (by rfl) ?_; apply Exists.intro; refine ⟨fun w1 hb1 => ?_, ?_⟩; (focus ((have hb1 := zH hb1; go_simp); (try (go_bits; try go_simp)); (try (rw [if_pos (by omega)]; try go_simp)); (first | done | (with_reducible rfl) | exact rfl)))
  simp only [Act.put, zzT, zzO, zzS]
  refine WT_yes 10 rfl (by kernel_rfl) (fun _ _ _ _ _ h => h) (by rfl) ?_; apply Exists.intro; refine ⟨fun w1 hb1 => ?_, ?_⟩; (focus ((have hb1 := zH hb1; go_simp); (try (go_bits; try go_simp)); (try (rw [if_pos (by omega)]; try go_simp)); (first | done | (with_reducible rfl) | exact rfl)))
  simp only [Act.put, zzT, zzO, zzS]
  refine WT_yes 11 rfl (by kernel_rfl) (fun _ _ _ _ _ h => h) (by rfl) ?_; apply Exists.intro; refine ⟨fun w1 hb1 => ?_, ?_⟩; (focus ((have hb1 := zH hb1; go_simp); (try (go_bits; try go_simp)); (try (rw [if_pos (by omega)]; try go_simp)); (first | done | (with_reducible rfl) | exact rfl)))
  simp only [Act.put, zzT, zzO, zzS]
  refine WT_yes 12 rfl (by kernel_rfl) (fun _ _ _ _ _ h => h) (by rfl) ?_; apply Exists.intro; refine ⟨fun w1 hb1 => ?_, ?_⟩; (focus ((have hb1 := zH hb1; go_simp); (try (go_bits; try go_simp)); (try (rw [if_pos (by omega)]; try go_simp)); (first | done | (with_reducible rfl) | exact rfl)))
  simp only [Act.put, zzT, zzO, zzS]
  refine WT_yes 13 rfl (by kernel_rfl) (fun _ _ _ _ _ h => h) (by rfl) ?_; apply Exists.intro; refine ⟨fun w1 hb1 => ?_, ?_⟩; (focus ((have hb1 := zH hb1; go_simp); (try (go_bits; try go_simp)); (try (rw [if_pos (by omega)]; try go_simp)); (first | done | (with_reducible rfl) | exact rfl)))
  simp only [Act.put, zzT, zzO, zzS]
  refine WT_done (by kernel_rfl) ?_
  replace HB := zH (bThen HB.out T.out)
  replace K3 := zH (K3.out.to T.out)
  replace K4 := zH (K4.out.to T.out)
  replace K5 := zH (K5.out.to T.out)
  replace HRR := zH (HRR.out.to T.out)
  clear T
  clear HSF HCR HCPY
  obtain ⟨z1, hz1⟩ : ∃ z, z = g9 := ⟨_, rfl⟩
  subst hz1
  obtain ⟨-, k3, -⟩ := K3.out
  obtain ⟨-, k4, -⟩ := K4.out
  obtain ⟨-, k5, -⟩ := K5.out
  go_wp2_with fail
  clear k3 k4 k5
  refine (HOE.out _ HB.out).mono ?_
  rintro e z2 ⟨rfl, hb⟩
  replace K3 := zH (K3.out.to hb)
  replace K4 := zH (K4.out.to hb)
  replace K5 := zH (K5.out.to hb)
  replace HB := zH (bThen HB.out hb)
  replace HRR := zH (HRR.out.to hb)
  clear hb HOE
  by_cases h0 : oe = 0
  case neg =>
    have hv : oe2 = oe := HLV.out.trans (if_neg h0)
    obtain ⟨e1, e2, e3, e4, e5⟩ := HBAD.out (by rw [hv]; exact h0)
    rw [hv] at e2 e5
    replace e2 := e2.symm
    replace e5 := e5.symm
    subst e1 e2 e3 e4 e5
    have h0' : (oe == 0) = false := by simpa using h0
    have h0'' : (oe != 0) = true := by simpa using h0
    clear HLV HBAD HGD HSG
    go_wp2_with fail
    go_ret
    exact ⟨rfl, HB.out⟩
  have hv : oe2 = le := HLV.out.trans (if_pos h0)
  subst h0
  obtain ⟨-, k5, -⟩ := K5.out
  go_wp2_with fail
  clear k5
  refine (HLM.out _).mono ?_
  rintro e w' ⟨rfl, rfl⟩
  clear HLM
  by_cases h1 : le = 0
  case neg =>
    obtain ⟨e1, e2, e3, e4, e5⟩ := HBAD.out (by rw [hv]; exact h1)
    rw [hv] at e2 e5
    replace e2 := e2.symm
    replace e5 := e5.symm
    subst e1 e2 e3 e4 e5
    have h0'' : (le != 0) = true := by simpa using h1
    clear HLV HBAD HGD HSG
    go_wp2_with fail
    go_ret
    exact ⟨rfl, HB.out⟩
  subst h1
  subst hv
  clear HLV HBAD
  obtain ⟨rfl, hgt, hgf⟩ := HGD.out (by first | rfl | trivial)
  have HGT := zH hgt
  have HGF := zH hgf
  replace HRP := zH (fun W hb => HRP.out W rfl hb)
  replace HRW := zH (fun W wt hw hb => HRW.out W wt rfl hw hb)
  replace HRS := zH (fun W hb => HRS.out W rfl hb)
  replace HSG := zH (HSG.out rfl)
  replace HWL := zH (fun wt hw => HWL.out wt rfl hw)
  clear hgt hgf HGD
  obtain ⟨-, k3, -⟩ := K3.out
  obtain ⟨-, k4, -⟩ := K4.out
  obtain ⟨-, k5, -⟩ := K5.out
  go_wp2_with fail
  clear k3 k4 k5
  refine (HRP.out _ HB.out).mono ?_
  rintro e z3 ⟨rfl, hb⟩
  replace K3 := zH (K3.out.to hb)
  replace K4 := zH (K4.out.to hb)
  replace K5 := zH (K5.out.to hb)
  replace HB := zH (bThen HB.out hb)
  replace HRR := zH (HRR.out.to hb)
  clear hb HRP
  go_upto_region 14 with (fail)
  go_cut [161] from 123 to 160 (fun s161 wc => s161 = .bool false ∧ Hid (Below z3.heap.size z3 wc))
  case first =>
    cases rb
    case true =>
      obtain ⟨rfl, rfl⟩ := HGT.out rfl
      go_wp2_with fail
      go_meet
      case rel => exact ⟨rfl, zH (Below.refl _ _)⟩
    case false =>
      obtain ⟨rfl, hw⟩ := HGF.out rfl
      have HRW1 := zH (fun W hb => HRW.out W ro hw hb)
      have hrl := HWL.out ro hw
      clear hw HRW HWL
      obtain ⟨-, k3, -⟩ := K3.out
      obtain ⟨-, k4, -⟩ := K4.out
      obtain ⟨-, k5, -⟩ := K5.out
      go_wp2_with fail
      clear k3 k4 k5
      refine (HRW1.out _ HB.out).mono ?_
      rintro e z4 ⟨aW, cW, rfl, -, hrW, hb⟩
      have HI := zH (fun W h1 h2 => Ints_any ro ro aR aW cR cW W (by unfold maxLen; omega) h1 h2)
      rw [decide_eq_true (show ro = ro from rfl)] at HI
      have HRW := zH hrW
      replace HRR := zH (HRR.out.to hb)
      have HZ := zH hb
      clear hrW hb HRW1
      go_wp2_with fail
      refine (HI.out _ HRR.out HRW.out).mono ?_
      rintro e z5 ⟨rfl, hb⟩
      replace HZ := zH (bThen HZ.out hb)
      clear hb
      go_wp2_with fail
      go_meet
      case rel => exact ⟨rfl, HZ⟩
  obtain ⟨z6, hwo⟩ : ∃ wo, wo = wc := ⟨_, rfl⟩
  subst hwo
  obtain ⟨rfl, hb⟩ := hcut
  replace hb := hb.out
  replace K3 := zH (K3.out.to hb)
  replace K4 := zH (K4.out.to hb)
  replace K5 := zH (K5.out.to hb)
  replace HB := zH (bThen HB.out hb)
  clear hb HRW HWL HGT HGF HRR
  obtain ⟨-, k3, -⟩ := K3.out
  obtain ⟨-, k4, -⟩ := K4.out
  obtain ⟨-, k5, -⟩ := K5.out
  go_wp2_with fail
  clear k3 k4 k5
  refine (HRS.out _ HB.out).mono ?_
  rintro e z7 ⟨rfl, hb⟩
  replace HB := zH (bThen HB.out hb)
  clear hb HRS K3 K4 K5
  cases sb
  · obtain ⟨rfl, rfl⟩ := HSG.out.2 rfl
    go_wp2_with fail
    go_ret
    exact ⟨rfl, HB.out⟩
  · obtain ⟨rfl, rfl⟩ := HSG.out.1 rfl
    go_wp2_with fail
    go_ret
    exact ⟨ret_bool (by simp), HB.out⟩

  end Go.Proofs.YtjfedpblkejmkaaGreat

