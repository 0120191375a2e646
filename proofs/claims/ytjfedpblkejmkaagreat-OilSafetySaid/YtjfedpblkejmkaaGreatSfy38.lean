/-
  Texts of this claim, in their build order: OM16.
-/
import Derived.Test.YtjfedpblkejmkaaGreatSfy37

/-
  CheckValve, whole.
-/
namespace Go.Proofs.YtjfedpblkejmkaaGreat
open Go.RowKit
attribute [local go_sem] Oper.semAt_some

theorem vl1_any (l : List (Int × Int × Int)) (a : Option Addr) (cap k bp : Nat) (w : World) (hk : k < l.length) (hlen : l.length ≤ 100000) (hp : Blk w bp #[.slice a l.length cap]) (hr : Reads w a (l.length * 3) (flws l)) :
    Calls Tryz.prog 113 #[.int .i64 k, .agg #[.int .i64 (vg l k).1, .int .i64 (vg l k).2.1, .int .i64 (vg l k).2.2], .pointer (some ⟨bp, 0, none⟩)] w fun e w' => e = .returned (.int .i64 (vlE l k)) ∧ Below w.heap.size w w' := by
  rcases k with _ | j
  · exact vl1_zero l bp w
  · exact vl1_succ l a cap j bp w hk hlen hp hr

set_option maxHeartbeats 1600000 in
set_option maxRecDepth 100000 in
theorem CheckValve_any (l : List (Int × Int × Int)) (a : Option Addr) (cap : Nat) (w : World) (hlen : l.length ≤ 100000) (hr : Reads w a (l.length * 3) (flws l)) :
    Calls Tryz.prog 44 #[.slice a l.length cap] w fun e w' => e = .returned (.tuple #[.int .i64 (chVl l).1, .int .i64 (chVl l).2]) ∧ Below w.heap.size w w' := by
  have HEA := Lib.hid (fun W bp (hp : Blk W bp #[.slice a l.length cap]) (hb : Below w.heap.size w W) => eachFl_any l a cap 113 #[.pointer (some ⟨bp, 0, none⟩)] W (vlE l) (fun _ W' => Blk W' bp #[.slice a l.length cap] ∧ Below w.heap.size w W') hlen (by intro args w; go_simp) ⟨hp, hb⟩ (fun _ W' _ h => hr.to h.2) (fun _ W' o h => ⟨h.1.alloc o, bAlloc h.2 o⟩)
    (fun k W' hk h => (vl1_any l a cap k bp W' hk hlen h.1 (hr.to h.2)).mono fun e w'' ⟨he, hb'⟩ => ⟨he, h.1.to hb', bThen h.2 hb'⟩))
  have H1 : Hid (chVl l = if fewE l.length ≠ 0 then (0, fewE l.length) else eachR (vlE l) 0 l.length) := Lib.hid rfl
  obtain ⟨⟨c1, c2⟩, hch⟩ : ∃ c, chVl l = c := ⟨_, rfl⟩
  rw [hch] at H1 ⊢
  clear hch
  obtain ⟨⟨e1, e2⟩, her⟩ : ∃ e, eachR (vlE l) 0 l.length = e := ⟨_, rfl⟩
  rw [her] at H1 HEA
  clear her
  obtain ⟨n, hn⟩ : ∃ n, l.length = n := ⟨_, rfl⟩
  rw [hn] at HEA H1 hlen ⊢
  obtain ⟨fe, hfe⟩ : ∃ e, fewE (n : Int) = e := ⟨_, rfl⟩
  have HFE := Lib.hid hfe
  rw [hfe] at H1
  clear hfe hr hn
  dsimp only at HEA ⊢
  by_cases hf : fe = 0
  · have hc : (c1, c2) = (e1, e2) := by rw [H1.out, if_neg (by simpa using hf)]
    injection hc with h1 h2
    subst h1 h2
    clear H1
    go_enter Tryz.func44, Tryz.ntmps44
    go_wp2_with fail
    refine (oFew_any _ _).mono ?_
    rintro e w1 ⟨rfl, hb⟩
    rw [HFE.out, hf]
    have K0 : Hid (Blk w1 w.heap.size #[.slice a n cap]) := Lib.hid ((Blk.new _ _ _).to hb)
    have HB := Lib.hid (bThen (bAlloc (bSelf w) _) hb)
    clear hb
    obtain ⟨-, k0, -⟩ := K0.out
    go_wp2_with fail
    refine (HEA.out w1 _ K0.out HB.out).mono ?_
    rintro e w2 ⟨rfl, kk, -, ⟨hk0, hbb⟩, -⟩
    replace HB := Lib.hid hbb
    clear hk0 hbb k0
    go_wp2_with fail
    go_ret2
    exact ⟨rfl, HB.out⟩
  · have hc : (c1, c2) = (0, fe) := by rw [H1.out, if_pos hf]
    injection hc with h1 h2
    subst h1 h2
    clear H1
    have hf' : (c2 != 0) = true := by simpa using hf
    have HF := Lib.hid hf
    clear hf
    go_enter Tryz.func44, Tryz.ntmps44
    go_wp2_with fail
    refine (oFew_any _ _).mono ?_
    rintro e w1 ⟨rfl, hb⟩
    rw [HFE.out]
    have HB := Lib.hid (bThen (bAlloc (bSelf w) _) hb)
    clear hb
    go_wp2_with fail
    go_ret2
    exact ⟨rfl, HB.out⟩

end Go.Proofs.YtjfedpblkejmkaaGreat

