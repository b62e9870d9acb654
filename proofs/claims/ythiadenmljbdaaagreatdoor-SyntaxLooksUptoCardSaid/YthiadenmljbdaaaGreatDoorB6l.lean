/-
  l: the parts YFrame YTok YRef YZ YTree.
-/
import Derived.Test.YthiadenmljbdaaaGreatDoorCards
import Derived.Test.YthiadenmljbdaaaGreatDoorTie
import Derived.Test.YthiadenmljbdaaaGreatDoorB2l
import Derived.ProofKit
import Derived.OpenShut
import Derived.Deep.DeepHandedRow
import Derived.ChangeMaps5
import Derived.Test.YthiadenmljbdaaaGreatDoorB5l
import Derived.Deep.Cut
import Derived.Deep.RegionHeld3
import Derived.BigQuiet
import Derived.StillTailTactics
import Derived.Test.YthiadenmljbdaaaGreatDoorB3l
import Derived.Test.YthiadenmljbdaaaGreatDoorB1l
import Derived.Laws.CopyOwn
import Derived.Laws.Rows
namespace Go.Proofs.YthiadenmljbdaaaGreatDoor
section
open Go.RowKit
open Go.ChangeShapes Go.ChangeMaps Go.WideShapes Go.ChangeAt
theorem own : ownKnob Tryz.prog.godebug = none := by kernel_rfl
theorem laidOut : laidOutB Tryz.prog = true := by kernel_rfl
theorem cellsU32 : Tryz.prog.cellsOf 69 = 1 := by kernel_rfl
def cellsOfLits {H : Type} : List (DataW H) → List Value
 | [] => []
 | .lit (.int k n) :: r => .int k n :: cellsOfLits r
 | _ :: r => cellsOfLits r
def cellsOfDatum {H : Type} : DataW H → List Value
 | .agg l => l.flatMap fun | .lit (.int k n) => [.int k n] | .agg m => cellsOfLits m | _ => []
 | _ => []
def putCells (cs : Array Value) : Obj → Obj
 | .cells _ t frozen => .cells cs t frozen
 | o => o
noncomputable def laidWorld (os : Os) : World :=
 { World.holding Tryz.prog os ⟨#[], #[], []⟩ with heap := ((World.holding Tryz.prog os ⟨#[], #[], []⟩).heap.modify 1 (putCells (cellsOfDatum Go.Pinned.utf8First).toArray)).modify 2 (putCells (cellsOfDatum (Rows.laid_unicode_utf8_acceptRanges (H := Unit))).toArray) }
section
variable {H : Type} {enc : TypeId × Value → H} {W : World}
def limbs (zs : List Int) : List Nat := zs.map Int.toNat
theorem limbs_dg (zs : List Int) (k : Nat) (h : k < zs.length) (h0 : 0 ≤ zs.getD k 0) : (N.dg (limbs zs) k : Int) = zs.getD k 0 := by
 rw [N.dg_get _ _ (by simpa [limbs] using h)]
 have e : zs.getD k 0 = zs[k] := by simp [List.getD, h]
 rw [e] at h0 ⊢
 simp only [limbs, List.getElem_map]
 omega
end
section
variable {H : Type} {enc : TypeId × Value → H} {W : World}
end
end
section
open Go.RowKit
theorem tok_cells {w : World} {base : Nat} {v : Value} {rs : List Tk} {l : List UInt8} {ps : List (Nat × Nat × Nat)} (hown : OutT w base v rs) (htk : Toks w base l rs ps) (hn : 0 < ps.length) : ∃ g cap, v = .slice (some ⟨g, 0, none⟩) ps.length cap ∧ ∀ i, i < ps.length → ∃ A n c,
    w.cell? ⟨g, i * 5, none⟩ = some (.int .i64 ((ps.getD i (0, 0, 0)).1 : Nat)) ∧ w.cell? ⟨g, i * 5 + 1, none⟩ = some (.string ⟨((l.drop (ps.getD i (0, 0, 0)).2.1).take (ps.getD i (0, 0, 0)).2.2).toArray⟩) ∧ w.cell? ⟨g, i * 5 + 2, none⟩ = some (.bool false) ∧ w.cell? ⟨g, i * 5 + 3, none⟩ = some (.slice A n c) ∧
    w.cell? ⟨g, i * 5 + 4, none⟩ = some (.int .i64 ((ps.getD i (0, 0, 0)).2.1 : Nat)) ∧ MagOf base w (.slice A n c) (ps.getD i (0, 0, 0)).1 ((l.drop (ps.getD i (0, 0, 0)).2.1).take (ps.getD i (0, 0, 0)).2.2) := by
  obtain ⟨g, cap, hv, hc⟩ := hown.cells (by rw [htk.1]; exact hn)
  rw [htk.1] at hv
  refine ⟨g, cap, hv, fun i hi => ?_⟩
  obtain ⟨h1, h2, h3, h4⟩ := htk.2 i hi
  have hcc := hc i (by rw [htk.1]; exact hi)
  obtain ⟨⟨k, T, m, p⟩, hr⟩ : ∃ r, rs.getD i tk0 = r := ⟨_, rfl⟩
  rw [hr] at h1 h2 h3 h4 hcc
  dsimp only at h1 h2 h3 h4
  rw [h1, h3] at h4
  have hT := bytes_ext h3
  have hm : ∃ A n c, m = .slice A n c := by
   unfold MagOf at h4
   split at h4
   · obtain ⟨g', n, c, e, _⟩ := h4; exact ⟨_, _, _, e⟩
   · exact ⟨_, _, _, h4⟩
  obtain ⟨A, n, c, rfl⟩ := hm
  refine ⟨A, n, c, ?_, ?_, ?_, ?_, ?_, h4⟩
  · have := hcc 0 (by omega); rw [Nat.add_zero] at this; rw [this, ← h1]; rfl
  · rw [hcc 1 (by omega), ← hT]; rfl
  · rw [hcc 2 (by omega)]; rfl
  · rw [hcc 3 (by omega)]; rfl
  · rw [hcc 4 (by omega), ← h2]; rfl
theorem s_below {V : Prop} {B : Nat} {wk w : World} (h : V ∧ Below B wk w) : Below B wk w := h.2
theorem MagOf.sl {base : Nat} {w : World} {A : Option Addr} {n c k : Nat} {l : List UInt8} (h : MagOf base w (.slice A n c) k l) : Sl w A n c (if k = 1 then N.ofN (N.val l) else []) := by
 unfold MagOf at h
 split at h
 ·
  rename_i hk
  rw [if_pos hk]
  obtain ⟨g, n', c', e, ho⟩ := h
  injection e with e1 e2 e3
  subst e1; subst e2; subst e3
  exact ho.sl
 · rename_i hk
   rw [if_neg hk]
   injection h with e1 e2 e3
   subst e1; subst e2; subst e3
   exact Sl.nil _ _ _
theorem below_drewN {w w' : World} (h : Below w.heap.size w w') (n : Nat) : Below w.heap.size w (w'.drewN n) := ⟨h.os, h.tape, h.output, h.size, h.block⟩
theorem Blk.drewN {w : World} {b : Nat} {t : TypeId} {cs : Array Value} (h : Blk w b t cs) (n : Nat) : Blk (w.drewN n) b t cs := h
abbrev Wd := Nat × ByteArray × List Nat × Nat
def wd0 : Wd := (0, ⟨#[]⟩, [], 0)
def ArrT (w : World) (v : Value) (ts : List Wd) : Prop := ∃ A c, v = .slice A ts.length c ∧ (0 < ts.length → ∃ g, A = some ⟨g, 0, none⟩ ∧ ∀ i, i < ts.length → ∃ B m d, w.cell? ⟨g, i * 5, none⟩ = some (.int .i64 ((ts.getD i wd0).1 : Nat)) ∧ w.cell? ⟨g, i * 5 + 1, none⟩ = some (.string (ts.getD i wd0).2.1) ∧
 w.cell? ⟨g, i * 5 + 2, none⟩ = some (.bool false) ∧ w.cell? ⟨g, i * 5 + 3, none⟩ = some (.slice B m d) ∧ w.cell? ⟨g, i * 5 + 4, none⟩ = some (.int .i64 ((ts.getD i wd0).2.2.2 : Nat)) ∧ Sl w B m d (ts.getD i wd0).2.2.1)
theorem keep_cell {w w' : World} {p : Addr} {v : Value} (h : w.cell? p = some v) (hb : Below w.heap.size w w') : w'.cell? p = some v := (hb.cell (World.block_lt_of_cell? w _ h)).trans h
theorem ArrT.below {w w' : World} {v : Value} {ts : List Wd} (h : ArrT w v ts) (hb : Below w.heap.size w w') : ArrT w' v ts := by
 obtain ⟨A, c, e, h⟩ := h
 refine ⟨A, c, e, fun hn => ?_⟩
 obtain ⟨g, e, hc⟩ := h hn
 refine ⟨g, e, fun i hi => ?_⟩
 obtain ⟨B, m, d, h0, h1, h2, h3, h4, h5⟩ := hc i hi
 exact ⟨B, m, d, keep_cell h0 hb, keep_cell h1 hb, keep_cell h2 hb, keep_cell h3 hb, keep_cell h4 hb, h5.below hb⟩
def X.tks (l : List UInt8) (ps : List (Nat × Nat × Nat)) : List Wd := ps.map fun p => (p.1, ⟨((l.drop p.2.1).take p.2.2).toArray⟩, (if p.1 = 1 then N.ofN (N.val ((l.drop p.2.1).take p.2.2)) else []), p.2.1)
theorem X.tks_get (l : List UInt8) (ps : List (Nat × Nat × Nat)) (i : Nat) (h : i < ps.length) : (X.tks l ps).getD i wd0 = ((ps.getD i (0, 0, 0)).1, ⟨((l.drop (ps.getD i (0, 0, 0)).2.1).take (ps.getD i (0, 0, 0)).2.2).toArray⟩, (if (ps.getD i (0, 0, 0)).1 = 1 then N.ofN (N.val ((l.drop (ps.getD i (0, 0, 0)).2.1).take (ps.getD i (0, 0, 0)).2.2)) else []), (ps.getD i (0, 0, 0)).2.1) := by
 simp [X.tks, List.getD, h]
theorem X.tks_len (l : List UInt8) (ps : List (Nat × Nat × Nat)) : (X.tks l ps).length = ps.length := by simp [X.tks]
theorem MagOf.len {base : Nat} {w : World} {m : Value} {k : Nat} {l : List UInt8} (h : MagOf base w m k l) : (if k = 1 then N.ofN (N.val l) else []).length ≤ 9223372036854775807 := by
 unfold MagOf at h
 split at h
 ·
  rename_i hk
  rw [if_pos hk]
  obtain ⟨g, n, c, _, ho⟩ := h
  rcases ho.own.2 with ⟨e, _⟩ | ⟨g', cap, cur, e, _, _, hle, hm, _⟩
  · cases e
  · have := ho.len
    unfold maxLen at hm
    omega
 · rename_i hk
   rw [if_neg hk]; simp
def Wr (w : World) (base lim : Nat) (m : Value) : Prop := m = .slice none 0 0 ∨ ∃ g2 n2 c2 cs, m = .slice (some ⟨g2, 0, none⟩) n2 c2 ∧ n2 ≤ c2 ∧ c2 ≤ maxLen ∧ (base ≤ g2 ∧ g2 < lim) ∧ w.heap[g2]? = some (.cells cs 69 (0, 0)) ∧ c2 ≤ cs.size ∧ ∀ u ∈ cs.toList, ∃ z : Int, u = .int .u32 z
def KeepU (w w' : World) : Prop := ∀ (g : Nat) (cs : Array Value), w.heap[g]? = some (.cells cs 69 (0, 0)) → (∀ u ∈ cs.toList, ∃ z : Int, u = .int .u32 z) → ∃ cs' : Array Value, w'.heap[g]? = some (.cells cs' 69 (0, 0)) ∧ cs'.size = cs.size ∧ ∀ u ∈ cs'.toList, ∃ z : Int, u = .int .u32 z
theorem Wr.at {w w' : World} {base lim : Nat} {m : Value} (h : Wr w base lim m) (hk : KeepU w w') : Wr w' base lim m := by
 rcases h with h | ⟨g2, n2, c2, cs, e, h1, h2, h3, h4, h5, h6⟩
 · exact .inl h
 · obtain ⟨cs', k1, k2, k3⟩ := hk g2 cs h4 h6
   exact .inr ⟨g2, n2, c2, cs', e, h1, h2, h3, k1, by omega, k3⟩
theorem MagOf.wr {wa w : World} {base : Nat} {m : Value} {k : Nat} {l : List UInt8} (h : MagOf base wa m k l) (hb : Below wa.heap.size wa w) : Wr w base wa.heap.size m := by
 unfold MagOf at h
 split at h
 ·
  obtain ⟨g, n, c, rfl, ho⟩ := h
  rcases ho.own.2 with ⟨e, _⟩ | ⟨g', cap, cur, e, hbg, hg, hle, hm, hsz, _⟩
  · cases e
  · injection e with e1 _ e2
    injection e1 with e1
    injection e1 with e1
    subst e1; subst e2
    have hlt := (Array.getElem?_eq_some_iff.1 hg).1
    exact .inr ⟨g, n, c, cur, rfl, hle, hm, ⟨hbg, hlt⟩, (hb.block g hlt).trans hg, by omega, ints_of_full hg ho.full (by omega)⟩
 · exact .inl h
theorem KeepU.of_fr {w w' : World} {g2 : Nat} {cs cs' : Array Value} (hf : Fr w w' (fun b => b = g2)) (h0 : w.heap[g2]? = some (.cells cs 69 (0, 0))) (h : w'.heap[g2]? = some (.cells cs' 69 (0, 0))) (hs : cs'.size = cs.size) (hu : ∀ u ∈ cs'.toList, ∃ z : Int, u = .int .u32 z) : KeepU w w' := fun g c hg hc => by
 by_cases e : g = g2
 ·
  subst e
  have e2 := h0.symm.trans hg
  injection e2 with e2
  injection e2 with e2 _ _
  subst e2
  exact ⟨cs', h, hs, hu⟩
 · exact ⟨c, (hf.block g (Array.getElem?_eq_some_iff.1 hg).1 e).trans hg, rfl, hc⟩
theorem KeepU.same {w w' : World} (h : w'.heap = w.heap) : KeepU w w' := fun g c hg hc => ⟨c, by rw [h]; exact hg, rfl, hc⟩
end
section
open Go.RowKit
section
variable {w w' : World} {v : Value} {K x : Nat}
end
section
variable {w w' : World} {base : Nat} {v : Value} {l : List Nat}
end
theorem at_any (w : World) (A : Option Addr) (n c : Nat) (l : List Nat) (h : Sl w A n c l) (hm : n ≤ 9223372036854775807) (i : Nat) (hi : i ≤ 9223372036854775807) :
    Calls Tryz.prog 124 #[.slice A n c, .int .i64 i] w fun e w' => e = .returned (.int .u64 (N.dg l i : Nat)) ∧ w = w' := by
  have hx := N.dg_lt h.lim i
  go_enter Tryz.func124, Tryz.ntmps124
  by_cases hin : i < n
  · obtain ⟨b, o, rfl, hc⟩ := h.cells (by omega)
    have hci := hc i hin
    clear hc
    go_wp2_with fail
    go_ret
    exact ⟨rfl, rfl⟩
  · have e : N.dg l i = 0 := N.dg_ge _ _ (by rw [h.len]; omega)
    rw [e]
    clear e hx
    go_wp2_with fail
    go_ret
    exact ⟨rfl, rfl⟩
set_option maxHeartbeats 1600000 in
theorem rcmp_any (w : World) (A : Option Addr) (n c : Nat) (a : List Nat) (B : Option Addr) (m d : Nat) (b : List Nat) (ha : Sl w A n c a) (hb : Sl w B m d b) (hn : n ≤ 35184372088832) (hm : m ≤ 35184372088832) :
    Calls Tryz.prog 95 #[.slice A n c, .slice B m d] w fun e w' => e = .returned (.int .i64 (N.cmpN (N.nv a) (N.nv b))) ∧ w = w' := by
  have hla := ha.len
  have hlb := hb.len
  have HLA := Lib.hid hla
  have HLB := Lib.hid hlb
  clear hla hlb
  go_enter Tryz.func95, Tryz.ntmps95
  go_wp2_with fail
  go_loop [5, 6] (fun v5 v6 => ∃ (k : Nat) (s : Int), (k ≤ n ∨ k ≤ m) ∧ v6 = .int .i64 k ∧ v5 = .int .i64 s ∧ s = N.cmpN (N.nv (a.take k)) (N.nv (b.take k))) (fun _ v6 => n + m - (intOf v6).toNat)
  case atStart => exact ⟨0, 0, by omega, rfl, rfl, rfl⟩
  case round =>
   obtain ⟨k, s, hk, rfl, rfl, hs⟩ := hrel
   have HS := Lib.hid hs
   clear hs
   have hstep := N.cmp_take ha.lim hb.lim k
   have HST := Lib.hid hstep
   clear hstep
   rcases (show (k < n ∨ (n ≤ k ∧ k < m)) ∨ (n ≤ k ∧ m ≤ k) by omega) with h1 | ⟨h1, h2⟩
   ·
    obtain ⟨p, hp⟩ : ∃ p, N.dg a k = p := ⟨_, rfl⟩
    obtain ⟨q, hq⟩ : ∃ q, N.dg b k = q := ⟨_, rfl⟩
    have HP := Lib.hid hp
    have HQ := Lib.hid hq
    clear hp hq
    have hst := HST.out
    rw [HP.out, HQ.out, ← HS.out] at hst
    have key : ∀ r : Int, r = N.cmpN (N.nv (a.take (k + 1))) (N.nv (b.take (k + 1))) → ∃ (k' : Nat) (s' : Int), (k' ≤ n ∨ k' ≤ m) ∧ Value.int .i64 ((k : Int) + 1) = .int .i64 k' ∧ Value.int .i64 r = .int .i64 s' ∧ s' = N.cmpN (N.nv (a.take k')) (N.nv (b.take k')) :=
     fun r hr => ⟨k + 1, r, by omega, by go_num, rfl, hr⟩
    clear HST HS
    rcases Nat.lt_trichotomy p q with hpq | hpq | hpq
    ·
     rw [if_pos hpq] at hst
     have KEY := Lib.hid (key _ hst.symm)
     clear hst key
     have t1 : decide ((p : Int) < (q : Int)) = true := decide_eq_true (by omega)
     have t2 : decide ((p : Int) > (q : Int)) = false := decide_eq_false (by omega)
     have t3 : decide ((q : Int) < (p : Int)) = false := decide_eq_false (by omega)
     rcases h1 with h1 | ⟨h1, h2⟩
     all_goals
      go_wp2_with fail
      refine (at_any _ A n c a ha (by omega) k (by omega)).mono ?_
      rintro e w' ⟨rfl, rfl⟩
      rw [HP.out]
      go_wp2_with fail
      refine (at_any _ B m d b hb (by omega) k (by omega)).mono ?_
      rintro e w' ⟨rfl, rfl⟩
      rw [HQ.out]
      go_wp2_with fail
      refine (at_any _ A n c a ha (by omega) k (by omega)).mono ?_
      rintro e w' ⟨rfl, rfl⟩
      rw [HP.out]
      go_wp2_with fail
      refine (at_any _ B m d b hb (by omega) k (by omega)).mono ?_
      rintro e w' ⟨rfl, rfl⟩
      rw [HQ.out]
      go_wp2_with fail
      go_round
      case rel => exact KEY.out
      case measure => simp [intOf]; omega
    ·
     subst hpq
     rw [if_neg (by omega), if_neg (by omega)] at hst
     have KEY := Lib.hid (key _ hst.symm)
     clear hst key
     have t1 : decide ((p : Int) < (p : Int)) = false := decide_eq_false (by omega)
     have t2 : decide ((p : Int) > (p : Int)) = false := decide_eq_false (by omega)
     rcases h1 with h1 | ⟨h1, h2⟩
     all_goals
      go_wp2_with fail
      refine (at_any _ A n c a ha (by omega) k (by omega)).mono ?_
      rintro e w' ⟨rfl, rfl⟩
      rw [HP.out]
      go_wp2_with fail
      refine (at_any _ B m d b hb (by omega) k (by omega)).mono ?_
      rintro e w' ⟨rfl, rfl⟩
      rw [HQ.out]
      go_wp2_with fail
      refine (at_any _ A n c a ha (by omega) k (by omega)).mono ?_
      rintro e w' ⟨rfl, rfl⟩
      rw [HP.out]
      go_wp2_with fail
      refine (at_any _ B m d b hb (by omega) k (by omega)).mono ?_
      rintro e w' ⟨rfl, rfl⟩
      rw [HQ.out]
      go_wp2_with fail
      go_round
      case rel => exact KEY.out
      case measure => simp [intOf]; omega
    ·
     rw [if_neg (by omega), if_pos hpq] at hst
     have KEY := Lib.hid (key _ hst.symm)
     clear hst key
     have t1 : decide ((p : Int) < (q : Int)) = false := decide_eq_false (by omega)
     have t2 : decide ((p : Int) > (q : Int)) = true := decide_eq_true (by omega)
     have t3 : decide ((q : Int) < (p : Int)) = true := decide_eq_true (by omega)
     rcases h1 with h1 | ⟨h1, h2⟩
     all_goals
      go_wp2_with fail
      refine (at_any _ A n c a ha (by omega) k (by omega)).mono ?_
      rintro e w' ⟨rfl, rfl⟩
      rw [HP.out]
      go_wp2_with fail
      refine (at_any _ B m d b hb (by omega) k (by omega)).mono ?_
      rintro e w' ⟨rfl, rfl⟩
      rw [HQ.out]
      go_wp2_with fail
      refine (at_any _ A n c a ha (by omega) k (by omega)).mono ?_
      rintro e w' ⟨rfl, rfl⟩
      rw [HP.out]
      go_wp2_with fail
      refine (at_any _ B m d b hb (by omega) k (by omega)).mono ?_
      rintro e w' ⟨rfl, rfl⟩
      rw [HQ.out]
      go_wp2_with fail
      go_round
      case rel => exact KEY.out
      case measure => simp [intOf]; omega
   · go_wp2_with fail
     go_ret
     have e := HS.out
     rw [N.take_all (by rw [HLA.out]; exact h1), N.take_all (by rw [HLB.out]; exact h2)] at e
     rw [e]
     exact ⟨rfl, rfl⟩
end
section
open Go.RowKit
theorem ofN_len_pos {x k : Nat} (h : (N.ofN x).length = k) (h0 : 0 < x) : 0 < k := by
 have := N.ofN_pos h0; omega
theorem ofN_len_zero {x k : Nat} (h : (N.ofN x).length = k) (h0 : x = 0) : k = 0 := by
 subst h0; rw [← h]; rfl
theorem N.nv_ne_of {l : List Nat} {k : Nat} (h : N.dg l k ≠ 0) : N.nv l ≠ 0 := by
 have hk : k < l.length := by
  rcases Nat.lt_or_ge k l.length with h1 | h1
  · exact h1
  · exact absurd (N.dg_ge l k h1) h
 have h1 := N.nv_split l k
 rw [Nat.min_eq_left (by omega), N.nv_drop l k hk] at h1
 have h2 : 0 < 4294967296 ^ k * (N.dg l k + 4294967296 * N.nv (l.drop (k + 1))) := Nat.mul_pos (Nat.pow_pos (by omega)) (by omega)
 omega
def Pl (_ : Option Addr) : Prop := True
theorem Pl.any (A : Option Addr) : Pl A := trivial
def NwS (base : Nat) (w : World) (v : Value) : Prop := v = .slice none 0 0 ∨
 ∃ (g n c : Nat) (cs : Array Value), v = .slice (some ⟨g, 0, none⟩) n c ∧ base ≤ g ∧ n ≤ c ∧ c ≤ maxLen ∧ w.heap[g]? = some (.cells cs 69 (0, 0)) ∧ c ≤ cs.size ∧ ∀ u ∈ cs.toList, ∃ z : Int, u = .int .u32 z
theorem NwS.nil (base : Nat) (w : World) : NwS base w (.slice none 0 0) := .inl rfl
theorem NwS.le {base base' : Nat} {w : World} {v : Value} (h : NwS base w v) (hb : base' ≤ base) : NwS base' w v := by
 rcases h with h | ⟨g, n, c, cs, e, h1, h2⟩
 · exact .inl h
 · exact .inr ⟨g, n, c, cs, e, Nat.le_trans hb h1, h2⟩
theorem NwS.below {base : Nat} {w w' : World} {v : Value} (h : NwS base w v) (hb : Below w.heap.size w w') : NwS base w' v := by
 rcases h with h | ⟨g, n, c, cs, e, h1, h2, h3, h4, h5⟩
 · exact .inl h
 · exact .inr ⟨g, n, c, cs, e, h1, h2, h3, (hb.block g (Array.getElem?_eq_some_iff.1 h4).1).trans h4, h5⟩
theorem NwS.at {base : Nat} {w w' : World} {v : Value} (h : NwS base w v) (hk : ∀ (g : Nat) (cs : Array Value), w.heap[g]? = some (.cells cs 69 (0, 0)) → (∀ u ∈ cs.toList, ∃ z : Int, u = .int .u32 z) → w'.heap[g]? = w.heap[g]?) : NwS base w' v := by
 rcases h with h | ⟨g, n, c, cs, e, h1, h2, h3, h4, h5, h6⟩
 · exact .inl h
 · exact .inr ⟨g, n, c, cs, e, h1, h2, h3, (hk g cs h4 h6).trans h4, h5, h6⟩
theorem Own.nw {w : World} {base g n c : Nat} {l : List Nat} (h : Own w base g n c l) : NwS base w (.slice (some ⟨g, 0, none⟩) n c) := by
 rcases h.own.2 with ⟨h0, _⟩ | ⟨g', cap, cur, h0, hb, hg, hle, hm, hsz, _⟩
 · cases h0
 · injection h0 with h0 _ h2
   injection h0 with h0
   injection h0 with h0
   subst h0; subst h2
   exact .inr ⟨g, n, c, cur, rfl, hb, hle, hm, hg, by omega, ints_of_full hg h.full (by omega)⟩
def Mag (w : World) (v : Value) (K x : Nat) : Prop := ∃ A n c l, v = .slice A n c ∧ Pl A ∧ Sl w A n c l ∧ N.nv l = x ∧ n ≤ K
def Bag (w : World) (v : Value) (K x : Nat) : Prop := ∃ A n c, v = .slice A n c ∧ Pl A ∧ Sl w A n c (N.ofN x) ∧ n ≤ K
section
variable {w w' : World} {v : Value} {K x : Nat}
theorem Mag.below (h : Mag w v K x) (hb : Below w.heap.size w w') : Mag w' v K x := by
 obtain ⟨A, n, c, l, e, hp, hs, hx, hn⟩ := h
 exact ⟨A, n, c, l, e, hp, hs.below hb, hx, hn⟩
theorem Bag.below (h : Bag w v K x) (hb : Below w.heap.size w w') : Bag w' v K x := by
 obtain ⟨A, n, c, e, hp, hs, hn⟩ := h
 exact ⟨A, n, c, e, hp, hs.below hb, hn⟩
theorem Bag.mag (h : Bag w v K x) : Mag w v K x := by
 obtain ⟨A, n, c, e, hp, hs, hn⟩ := h
 exact ⟨A, n, c, _, e, hp, hs, N.nv_ofN x, hn⟩
theorem Mag.val (h : Mag w v K x) : Val w v K x := by
 obtain ⟨A, n, c, l, e, _, hs, hx, hn⟩ := h
 exact ⟨A, n, c, l, e, hs, hx, hn⟩
end
set_option maxRecDepth 100000 in
set_option maxHeartbeats 800000 in
theorem clone_any (w : World) (A : Option Addr) (n c : Nat) (l : List Nat) (h : Sl w A n c l) (hn : n ≤ 35184372088832) :
    Calls Tryz.prog 149 #[.slice A n c] w fun e w' => ∃ B d, e = .returned (.slice B n d) ∧ Sl w' B n d l ∧ Below w.heap.size w w' ∧ NwS w.heap.size w' (.slice B n d) := by
  obtain ⟨i0, hi, hz0, hz1, hz2⟩ := info_parts info_u32
  rcases A with _ | a
  ·
   have hn0 : n = 0 := by
    rcases Nat.eq_zero_or_pos n with h0 | h0
    · exact h0
    · obtain ⟨b, o, e, _⟩ := h.cells h0
      cases e
   subst hn0
   have hl0 : l = [] := List.eq_nil_of_length_eq_zero h.len
   subst hl0
   refine (Go.Proofs.Tryz.slices_Clone_nil_f149 0 c w).mono ?_
   rintro e w' ⟨rfl, rfl⟩
   exact ⟨none, 0, rfl, Sl.nil _ _ _, Below.refl _ _, NwS.nil _ _⟩
  ·
   have hlen := h.len
   have hlim := h.lim
   have hB : Below w.heap.size w (w.alloc (.cells #[] 69)) := (Below.refl _ _).alloc (Nat.le_refl _) _
   have hown : Own (w.alloc (.cells #[] 69)) w.heap.size w.heap.size 0 0 [] := Own.empty w
   have hn1 := (h.below hB).news
   have hm1 : 0 + n ≤ 35184372088832 := by omega
   clear h
   have q22 : ∀ (w : World) (a : Option Addr) (n c n' c' : Nat), (binOp .eql 23 (.slice a n c) (.slice none n' c')).run Tryz.prog w = .ok (.bool a.isNone) w := fun w a n c n' c' => Lib.run_eql_slice_nil w _ _ a n c n' c' Tryz.underlying23
   go_enter Tryz.func149, Tryz.ntmps149
   go_wp2_with (at_builtin; refine wpList_append_lim _ rfl (.tmp 5) (.tmp 6) 23 rfl w.heap.size i0 Tryz.underlying23 hi hz0 hz1 hz2 _ _ _ _ rfl hown _ _ _ l rfl hlen hlim hn1 hm1 (by simp) _ (Nat.zero_add _) _ (List.nil_append _) ?_; intro g cap w1 hown' hgrow)
   have hb1 : Below w.heap.size w _ := hB.grown (by assumption) (by simp) (by intro k hk; simp at hk; omega)
   go_ret
   exact ⟨_, _, rfl, Own.sl (by assumption), hb1, Own.nw (by assumption)⟩
def lenV : Value → Nat
 | .slice _ n _ => n
 | _ => 0
set_option maxRecDepth 100000 in
set_option maxHeartbeats 800000 in
theorem ztrim_any (w : World) (A : Option Addr) (n c : Nat) (l : List Nat) (h : Sl w A n c l) (hn : n ≤ 35184372088832) :
    Calls Tryz.prog 125 #[.slice A n c] w fun e w' => ∃ v, e = .returned v ∧ Bag w' v n (N.nv l) ∧ Below w.heap.size w w' ∧ NwS w.heap.size w' v := by
  have hcap := h.cap
  have hlen := h.len
  have HLEN := Lib.hid hlen
  clear hlen
  go_enter Tryz.func125, Tryz.ntmps125
  go_wp2_with fail
  go_loop [0] (fun v => ∃ k d : Nat, k ≤ n ∧ k ≤ d ∧ v = .slice A k d ∧ ∀ j, k ≤ j → j < n → N.dg l j = 0) (fun v => lenV v)
  case atStart => exact ⟨n, c, Nat.le_refl _, hcap, rfl, fun j h1 h2 => by omega⟩
  case round =>
   obtain ⟨k, d, hk, hkd, rfl, hz⟩ := hrel
   have HZ := Lib.hid hz
   clear hz
   by_cases hk0 : k = 0
   ·
    subst hk0
    have e : l.take 0 = N.ofN (N.nv l) := N.take_bare h.lim (by omega) (fun j h1 h2 => HZ.out j h1 (by rw [HLEN.out] at h2; exact h2)) (.inl rfl)
    have E := Lib.hid e
    clear e
    go_wp2_with fail
    refine (clone_any w A 0 d (l.take 0) ⟨by simp, hkd, N.Lim.nil, fun h => absurd h (by omega)⟩ (by omega)).mono ?_
    rintro e w1 ⟨B, c1, rfl, hs1, hb1, hn1⟩
    rw [E.out] at hs1
    go_wp2_with fail
    go_ret
    exact ⟨_, rfl, ⟨_, _, _, rfl, Pl.any _, hs1, by omega⟩, hb1, hn1⟩
   ·
    obtain ⟨b, o, rfl, hc⟩ := h.cells (by omega)
    have hck := hc (k - 1) (by omega)
    clear hc
    by_cases hd : N.dg l (k - 1) = 0
    ·
     have ht : ((N.dg l (k - 1) : Int) == 0) = true := by simpa using hd
     have HD := Lib.hid hd
     clear hd
     go_wp2_with fail
     go_round
     case rel =>
      refine ⟨k - 1, d, by omega, by omega, by go_num, fun j h1 h2 => ?_⟩
      rcases Nat.lt_or_ge j k with h3 | h3
      · obtain rfl : j = k - 1 := by omega
        exact HD.out
      · exact HZ.out j h3 h2
     case measure => simp [lenV]; omega
    ·
     have ht : ((N.dg l (k - 1) : Int) == 0) = false := by simpa using hd
     have e : l.take k = N.ofN (N.nv l) := N.take_bare h.lim (by rw [HLEN.out]; exact hk) (fun j h1 h2 => HZ.out j h1 (by rw [HLEN.out] at h2; exact h2)) (.inr hd)
     have E := Lib.hid e
     have hsk := h.take hk
     have hsk2 : Sl w (some ⟨b, o, none⟩) k d (l.take k) := ⟨hsk.len, hkd, hsk.lim, hsk.cells⟩
     clear e hd hsk
     go_wp2_with fail
     refine (clone_any w _ k d (l.take k) hsk2 (by omega)).mono ?_
     rintro e w1 ⟨B, c1, rfl, hs1, hb1, hn1⟩
     rw [E.out] at hs1
     go_wp2_with fail
     go_ret
     exact ⟨_, rfl, ⟨_, _, _, rfl, Pl.any _, hs1, hk⟩, hb1, hn1⟩
def Pair (w : World) (b : Nat) (t : TypeId) (v0 v1 : Value) : Prop := w.heap[b]? = some (.cells #[v0, v1] t (0, 0))
section
variable {w w' : World} {b : Nat} {t : TypeId} {v0 v1 : Value}
theorem Pair.lt (h : Pair w b t v0 v1) : b < w.heap.size := (Array.getElem?_eq_some_iff.1 h).1
theorem Pair.below (h : Pair w b t v0 v1) (hb : Below w.heap.size w w') : Pair w' b t v0 v1 := (hb.block b h.lt).trans h
theorem Pair.new (w : World) (t : TypeId) (v0 v1 : Value) : Pair (w.alloc (.cells #[v0, v1] t)) w.heap.size t v0 v1 := heap_alloc_new w _
theorem Pair.alloc (h : Pair w b t v0 v1) (o : Obj) : Pair (w.alloc o) b t v0 v1 := h.below ((Below.refl _ _).alloc (Nat.le_refl _) o)
theorem Pair.facts (h : Pair w b t v0 v1) : w.frozen? ⟨b, 0, none⟩ = false ∧ w.frozen? ⟨b, 1, none⟩ = false ∧ w.cell? ⟨b, 0, none⟩ = some v0 ∧ w.cell? ⟨b, 1, none⟩ = some v1 :=
 ⟨frozen_of_row _ _ _ _ _ h, frozen_of_row _ _ _ _ _ h, by rw [cell_of_row _ _ _ _ _ _ h]; rfl, by rw [cell_of_row _ _ _ _ _ _ h]; rfl⟩
theorem Pair.set (h : Pair w b t v0 v1) (u0 u1 : Value) : Pair ((w.setCell ⟨b, 0, none⟩ u0).setCell ⟨b, 1, none⟩ u1) b t u0 u1 :=
 heap_setCell_same _ _ 1 _ _ u1 (heap_setCell_same _ _ 0 _ _ u0 h)
end
theorem Sl.pair {w : World} {b : Nat} {t : TypeId} {p : Bool} {X : Option Addr} {y q : Nat} {A : Option Addr} {n c : Nat} {l : List Nat} (h : Sl w A n c l) (hp : Pair w b t (.bool p) (.slice X y q)) (u0 u1 : Value) :
    Sl ((w.setCell ⟨b, 0, none⟩ u0).setCell ⟨b, 1, none⟩ u1) A n c l :=
  ⟨h.len, h.cap, h.lim, fun hn => by
    obtain ⟨b', o, e, hc⟩ := h.cells hn
    refine ⟨b', o, e, fun k hk => ?_⟩
    have hck := hc k hk
    have hne : b' ≠ b := fun e => by
     subst e
     rw [cell_of_row _ _ _ _ _ _ hp] at hck
     rcases (show o + k = 0 ∨ o + k = 1 ∨ 2 ≤ o + k by omega) with h | h | h
     · rw [h] at hck; cases hck
     · rw [h] at hck; cases hck
     · rw [Array.getElem?_eq_none (by simpa using h)] at hck; cases hck
    rw [World.cell?_setCell_other _ _ _ _ (fun h => hne (by injection h with h; exact h.symm)), World.cell?_setCell_other _ _ _ _ (fun h => hne (by injection h with h; exact h.symm))]
    exact hck⟩
theorem Bag.pair {w : World} {b : Nat} {t : TypeId} {p : Bool} {X : Option Addr} {y q : Nat} {v : Value} {K x : Nat} (h : Bag w v K x) (hp : Pair w b t (.bool p) (.slice X y q)) (u0 u1 : Value) :
    Bag ((w.setCell ⟨b, 0, none⟩ u0).setCell ⟨b, 1, none⟩ u1) v K x := by
  obtain ⟨A, n, c, e, hP, hs, hn⟩ := h
  exact ⟨A, n, c, e, hP, hs.pair hp u0 u1, hn⟩
theorem below_pair {B b : Nat} {w w' : World} (h : Below B w w') (hb : B ≤ b) (u0 u1 : Value) : Below B w ((w'.setCell ⟨b, 0, none⟩ u0).setCell ⟨b, 1, none⟩ u1) := (h.setCell hb _).setCell hb _
theorem sizeInt : (Tryz.prog.info? 25).map (·.size) = some 2 := by kernel_rfl
def sgn (s : Bool) (x : Nat) : Int := if s then -(x : Int) else x
def ICan (w : World) (v : Value) (K : Nat) (z : Int) : Prop := ∃ sl, v = .agg #[.bool (decide (z < 0)), sl] ∧ Bag w sl K z.natAbs
def IVal (w : World) (v : Value) (K : Nat) (s : Bool) (x : Nat) : Prop := ∃ sl, v = .agg #[.bool s, sl] ∧ Mag w sl K x
section
variable {w w' : World} {v : Value} {K x : Nat} {s : Bool} {z : Int}
theorem IVal.below (h : IVal w v K s x) (hb : Below w.heap.size w w') : IVal w' v K s x := by
 obtain ⟨sl, e, hm⟩ := h
 exact ⟨sl, e, hm.below hb⟩
theorem ICan.below (h : ICan w v K z) (hb : Below w.heap.size w w') : ICan w' v K z := by
 obtain ⟨sl, e, hm⟩ := h
 exact ⟨sl, e, hm.below hb⟩
theorem ICan.val (h : ICan w v K z) : IVal w v K (decide (z < 0)) z.natAbs := by
 obtain ⟨sl, e, hm⟩ := h
 exact ⟨sl, e, hm.mag⟩
theorem natAbs_sgn (s : Bool) (x : Nat) : (sgn s x).natAbs = x := by cases s <;> simp [sgn]
theorem sgn_neg (s : Bool) (x : Nat) : decide (sgn s x < 0) = (s && decide (0 < x)) := by
 cases s
 · simp [sgn]
 · simp [sgn]
end
def NwI (base : Nat) (w : World) (v : Value) : Prop := ∃ s sl, v = .agg #[.bool s, sl] ∧ NwS base w sl
theorem NwI.mk {base : Nat} {w : World} {s : Bool} {sl : Value} (h : NwS base w sl) : NwI base w (.agg #[.bool s, sl]) := ⟨s, sl, rfl, h⟩
theorem NwI.le {base base' : Nat} {w : World} {v : Value} (h : NwI base w v) (hb : base' ≤ base) : NwI base' w v := by
 obtain ⟨s, sl, e, h⟩ := h
 exact ⟨s, sl, e, h.le hb⟩
theorem NwI.below {base : Nat} {w w' : World} {v : Value} (h : NwI base w v) (hb : Below w.heap.size w w') : NwI base w' v := by
 obtain ⟨s, sl, e, h⟩ := h
 exact ⟨s, sl, e, h.below hb⟩
theorem NwI.pair {base : Nat} {w : World} {b : Nat} {t : TypeId} {p : Bool} {X : Option Addr} {y q : Nat} {v : Value} (h : NwI base w v) (hp : Pair w b t (.bool p) (.slice X y q)) (u0 u1 : Value) :
    NwI base ((w.setCell ⟨b, 0, none⟩ u0).setCell ⟨b, 1, none⟩ u1) v := by
  obtain ⟨s, sl, e, h⟩ := h
  refine ⟨s, sl, e, h.at fun g cs h1 h2 => ?_⟩
  have hne : g ≠ b := fun e => by
   subst e
   have e2 := h1.symm.trans hp
   injection e2 with e2
   injection e2 with e2
   subst e2
   obtain ⟨z, hz⟩ := h2 (.bool p) (by simp)
   cases hz
  rw [Below.heap_setCell _ ⟨b, 1, none⟩ _ g hne, Below.heap_setCell _ ⟨b, 0, none⟩ _ g hne]
def Sep (v u : Value) : Prop := ∀ s g n c s' g' n' c', v = .agg #[.bool s, .slice (some ⟨g, 0, none⟩) n c] → u = .agg #[.bool s', .slice (some ⟨g', 0, none⟩) n' c'] → g ≠ g'
theorem NwI.sep {b : Nat} {w w' : World} {v u : Value} (h : NwI b w v) (h' : NwI w.heap.size w' u) : Sep v u := by
 intro s g n c s' g' n' c' e e'
 obtain ⟨t, sl, e1, h⟩ := h
 obtain ⟨t', sl', e1', h'⟩ := h'
 rw [e] at e1
 rw [e'] at e1'
 injection e1 with e1; injection e1 with e1; injection e1 with _ e1; injection e1 with e1 _
 injection e1' with e1'; injection e1' with e1'; injection e1' with _ e1'; injection e1' with e1' _
 subst e1; subst e1'
 rcases h with h | ⟨a, _, _, _, ea, _, _, _, h4, _⟩
 · cases h
 rcases h' with h' | ⟨a', _, _, _, ea', h1', _⟩
 · cases h'
 injection ea with ea _ _; injection ea with ea; injection ea with ea _ _
 injection ea' with ea' _ _; injection ea' with ea'; injection ea' with ea' _ _
 have := (Array.getElem?_eq_some_iff.1 h4).1
 omega
theorem Sep.nil (s : Bool) (u : Value) : Sep (.agg #[.bool s, .slice none 0 0]) u := by
 intro s g n c s' g' n' c' e _
 injection e with e; injection e with e; injection e with _ e; injection e with e _
 cases e
set_option maxRecDepth 100000 in
set_option maxHeartbeats 800000 in
theorem made_n (w : World) (s : Bool) (m : Value) (K x : Nat) (hm : Mag w m K x) (hK : K ≤ 35184372088832) :
    Calls Tryz.prog 97 #[.bool s, m] w fun e w' => ∃ v, e = .returned v ∧ ICan w' v K (sgn s x) ∧ Below w.heap.size w w' ∧ NwI w.heap.size w' v := by
  obtain ⟨A, n, c, l, rfl, _, hs, rfl, hn⟩ := hm
  have hb0 : Below w.heap.size w (w.alloc (.cells #[Value.bool false, Value.slice none 0 0] 25)) := (Below.refl _ _).alloc (Nat.le_refl _) _
  have hp0 := Pair.new w 25 (.bool false) (.slice none 0 0)
  go_enter Tryz.func97, Tryz.ntmps97
  go_wp2_with fail
  refine (ztrim_any _ A n c l (hs.below hb0) (by omega)).mono ?_
  rintro e w1 ⟨v, rfl, ⟨B, k, d, rfl, hB, hs1, hk⟩, hb1, hn1⟩
  replace hn1 := hn1.le (base' := w.heap.size) (by simp)
  have hp1 := hp0.below hb1
  obtain ⟨f0, f1, c0, c1⟩ := hp1.facts
  have hpos : decide ((k : Int) > 0) = decide (0 < N.nv l) := by
   have hl := hs1.len
   rcases Nat.eq_zero_or_pos (N.nv l) with h0 | h0
   · have := ofN_len_zero hl h0
     subst this
     rw [h0]; rfl
   · have := ofN_len_pos hl h0
     rw [decide_eq_true h0]; exact decide_eq_true (by omega)
  have HPOS := Lib.hid hpos
  have hbw := hb0.trans (hb1.mono (by simp))
  clear hpos hp0 hs
  have hbg : Bag w1 (.slice B k d) K (N.nv l) := ⟨_, _, _, rfl, hB, hs1, by omega⟩
  have hk0 : decide (0 < k) = decide (0 < N.nv l) := by rw [← HPOS.out]; simp
  cases s
  all_goals
   go_wp2_with fail
   refine bodyPost_ret (results_cell_row rfl _ _ _ _ _ _ _ rfl (hp1.set _ _) Tryz.underlying25 rfl sizeInt) rfl ?_
   refine ⟨_, rfl, ⟨_, ?_, by rw [natAbs_sgn]; exact hbg.pair hp1 _ _⟩, below_pair hbw (Nat.le_refl _) _ _, (NwI.mk hn1).pair hp1 _ _⟩
   rw [sgn_neg]
   first | done | simp | simp [hk0]
theorem sgn_false (x : Nat) : sgn false x = (x : Int) := by simp [sgn]
theorem sgn_true (x : Nat) : sgn true x = -(x : Int) := by simp [sgn]
theorem sgn_zero (s : Bool) : sgn s 0 = 0 := by cases s <;> simp [sgn]
theorem sgn_eq_zero {s : Bool} {x : Nat} : sgn s x = 0 ↔ x = 0 := by cases s <;> simp [sgn]
def IV (w : World) (v : Value) (K : Nat) (z : Int) : Prop := ∃ s x, IVal w v K s x ∧ sgn s x = z
section
variable {w w' : World} {v : Value} {K L x : Nat} {s : Bool} {z : Int}
theorem IV.below (h : IV w v K z) (hb : Below w.heap.size w w') : IV w' v K z := by
 obtain ⟨s, x, h, e⟩ := h
 exact ⟨s, x, h.below hb, e⟩
theorem Mag.le (h : Mag w v K x) (hk : K ≤ L) : Mag w v L x := by
 obtain ⟨A, n, c, l, e, hp, hs, hx, hn⟩ := h
 exact ⟨A, n, c, l, e, hp, hs, hx, Nat.le_trans hn hk⟩
theorem Bag.le (h : Bag w v K x) (hk : K ≤ L) : Bag w v L x := by
 obtain ⟨A, n, c, e, hp, hs, hn⟩ := h
 exact ⟨A, n, c, e, hp, hs, Nat.le_trans hn hk⟩
theorem IV.le (h : IV w v K z) (hk : K ≤ L) : IV w v L z := by
 obtain ⟨s, x, ⟨sl, e, hm⟩, hz⟩ := h
 exact ⟨s, x, ⟨sl, e, hm.le hk⟩, hz⟩
theorem ICan.le (h : ICan w v K z) (hk : K ≤ L) : ICan w v L z := by
 obtain ⟨sl, e, hm⟩ := h
 exact ⟨sl, e, hm.le hk⟩
theorem Bag.slice (h : Bag w v K x) : ∃ A n c, v = .slice A n c := by
 obtain ⟨A, n, c, e, _⟩ := h
 exact ⟨A, n, c, e⟩
end
theorem below_drew1 (w : World) : Below w.heap.size w w.drew := (Below.refl _ _).drew
theorem below_alloc2 (w : World) (o p : Obj) : Below w.heap.size w ((w.alloc o).alloc p) := below_on (below_alloc1 w o) (below_alloc1 _ p)
theorem Pair.keep {W w' : World} {b B : Nat} {t : TypeId} {v0 v1 : Value} (h : Pair W b t v0 v1) (hb : Below B W w') (hlt : b < B) : Pair w' b t v0 v1 := (hb.block b hlt).trans h
theorem Pair.drew {W : World} {b : Nat} {t : TypeId} {v0 v1 : Value} (h : Pair W b t v0 v1) : Pair W.drew b t v0 v1 := h
theorem on_go {B : Nat} {W w w' : World} (hB : B ≤ W.heap.size) (h : Below B W w) (hb : Below w.heap.size w w') : Below B W w' := h.trans (hb.mono (Nat.le_trans hB h.size))
theorem enter2r (w : World) (t : TypeId) (x0 x1 y0 y1 : Value) : ∃ W : World, W = (w.alloc (.cells #[x0, x1] t)).alloc (.cells #[y0, y1] t) ∧ Pair W w.heap.size t x0 x1 ∧ Pair W (w.heap.size + 1) t y0 y1 ∧ W.heap.size = w.heap.size + 2 ∧ Below w.heap.size w W := by
 have h2 : (w.alloc (.cells #[x0, x1] t)).heap.size = w.heap.size + 1 := by simp
 refine ⟨_, rfl, (Pair.new w t x0 x1).alloc _, ?_, by simp, below_alloc2 _ _ _⟩
 have := Pair.new (w.alloc (.cells #[x0, x1] t)) t y0 y1
 rwa [h2] at this
theorem ICan.form {w : World} {v : Value} {K : Nat} {z : Int} (h : ICan w v K z) : ∃ d A n c, v = .agg #[.bool d, .slice A n c] ∧ Hid (d = decide (z < 0)) ∧ Bag w (.slice A n c) K z.natAbs := by
 obtain ⟨sl, rfl, hg⟩ := h
 obtain ⟨A, n, c, rfl⟩ := hg.slice
 exact ⟨_, A, n, c, rfl, Lib.hid rfl, hg⟩
theorem ICan.mk {w : World} {d : Bool} {sl : Value} {K : Nat} {z : Int} (hd : d = decide (z < 0)) (hg : Bag w sl K z.natAbs) : ICan w (.agg #[.bool d, sl]) K z := by
 subst hd
 exact ⟨sl, rfl, hg⟩
theorem Mag.slice {w : World} {v : Value} {K x : Nat} (h : Mag w v K x) : ∃ A n c, v = .slice A n c := by
 obtain ⟨A, n, c, l, e, _⟩ := h
 exact ⟨A, n, c, e⟩
theorem Pair.far {w : World} {b b' : Nat} {t : TypeId} {v0 v1 : Value} (h : Pair w b t v0 v1) (hne : b ≠ b') (u0 u1 : Value) : Pair ((w.setCell ⟨b', 0, none⟩ u0).setCell ⟨b', 1, none⟩ u1) b t v0 v1 := by
 have h1 : ((w.setCell ⟨b', 0, none⟩ u0).setCell ⟨b', 1, none⟩ u1).heap[b]? = w.heap[b]? := by
  have e1 : ∀ (w : World) (o : Nat) (u : Value), (w.setCell ⟨b', o, none⟩ u).heap[b]? = w.heap[b]? := fun w o u => Below.heap_setCell w ⟨b', o, none⟩ u b hne
  rw [e1, e1]
 exact h1.trans h
theorem Bag.len {w : World} {A : Option Addr} {n c K x : Nat} (h : Bag w (.slice A n c) K x) : n = (N.ofN x).length := by
 obtain ⟨A', n', c', e, _, hs, _⟩ := h
 injection e with _ e _
 rw [e, hs.len]
set_option maxRecDepth 100000 in
set_option maxHeartbeats 800000 in
theorem norm_n {w : World} {v : Value} {K : Nat} {z : Int} (h : IV w v K z) (hK : K ≤ 17592186044416) :
    Calls Tryz.prog 58 #[v] w fun e w' => ∃ u, e = .returned u ∧ ICan w' u K (z) ∧ Below w.heap.size w w' ∧ NwI w.heap.size w' u := by
  obtain ⟨s, x, ⟨sl, rfl, hm⟩, rfl⟩ := h
  go_enter Tryz.func58, Tryz.ntmps58
  go_wp2_with fail
  have hb0 := below_alloc2 w (.cells #[.bool s, sl] 25) (.cells #[.bool false, .slice none 0 0] 25)
  have hp0 := Pair.new (w.alloc (.cells #[.bool s, sl] 25)) 25 (.bool false) (.slice none 0 0)
  refine (made_n _ s sl K x (hm.below hb0) (by omega)).mono ?_
  rintro e w1 ⟨u, rfl, hu, hb1, hn⟩
  have HN := Lib.hid (hn.le (base' := w.heap.size) hb0.size)
  clear hn
  obtain ⟨d, A, n, c, rfl, HD, hg⟩ := hu.form
  clear hu
  have hp1 := hp0.below hb1
  have hbw := below_on hb0 hb1
  obtain ⟨f0, f1, c0, c1⟩ := hp1.facts
  simp only [World.size_alloc] at hp1 f0 f1 c0 c1
  clear hp0 hb0 hb1
  go_wp2_with fail
  refine bodyPost_ret (results_cell_row rfl _ _ _ _ _ _ _ rfl (hp1.set _ _) Tryz.underlying25 rfl sizeInt) rfl ?_
  exact ⟨_, rfl, ICan.mk HD.out (hg.pair hp1 _ _), below_pair hbw (by omega) _ _, HN.out.pair hp1 _ _⟩
def vld (s : Bool) (l : List Nat) : Bool := ((s && decide (0 < N.nv l)) == s) && decide ((N.ofN (N.nv l)).length = l.length)
def IRaw (w : World) (v : Value) (K : Nat) (s : Bool) (l : List Nat) : Prop := ∃ A n c, v = .agg #[.bool s, .slice A n c] ∧ Pl A ∧ Sl w A n c l ∧ n ≤ K
theorem IRaw.below {w w' : World} {v : Value} {K : Nat} {s : Bool} {l : List Nat} (h : IRaw w v K s l) (hb : Below w.heap.size w w') : IRaw w' v K s l := by
 obtain ⟨A, n, c, e, hp, hs, hn⟩ := h
 exact ⟨A, n, c, e, hp, hs.below hb, hn⟩
theorem vld_last {s : Bool} {l : List Nat} (hl : N.Lim l) (h : l ≠ []) : vld s l = decide (N.dg l (l.length - 1) ≠ 0) := by
 have hlen : 0 < l.length := by cases l with
  | nil => exact absurd rfl h
  | cons _ _ => simp
 unfold vld
 by_cases h0 : N.dg l (l.length - 1) = 0
 ·
  have h1 : (N.ofN (N.nv l)).length ≤ l.length - 1 := by
   rw [N.nv_of_zero (l := l) (n := l.length - 1) (fun j hj => by
    rcases Nat.lt_or_ge j l.length with h2 | h2
    · obtain rfl : j = l.length - 1 := by omega
      exact h0
    · exact N.dg_ge l j h2)]
   have := N.ofN_nv_length (hl.take (l.length - 1))
   rw [List.length_take] at this
   omega
  rw [decide_eq_false (show ¬ (N.ofN (N.nv l)).length = l.length by omega), Bool.and_false]
  simp [h0]
 · have h1 : N.nv l ≠ 0 := N.nv_ne_of h0
   have h2 := N.bare_len hl (Nat.le_refl l.length) (fun k h3 h4 => by omega) (.inr h0)
   rw [decide_eq_true (show 0 < N.nv l by omega), Bool.and_true, h2]
   simp [h0]
set_option maxRecDepth 100000 in
set_option maxHeartbeats 1600000 in
theorem valid_i {w : World} {v : Value} {K : Nat} {s : Bool} {l : List Nat} (h : IRaw w v K s l) (hK : K ≤ 9223372036854775807) :
    Calls Tryz.prog 86 #[v] w fun e w' => e = .returned (.bool (vld s l)) ∧ Below w.heap.size w w' := by
  obtain ⟨G, hG⟩ : ∃ G, G = vld s l := ⟨_, rfl⟩
  rw [← hG]
  obtain ⟨A, n, c, rfl, hp, hs, hn⟩ := h
  have hlen := hs.len
  have hbw := below_alloc1 w (.cells #[.bool s, .slice A n c] 25)
  rcases Nat.eq_zero_or_pos n with rfl | h0
  ·
   obtain rfl : l = [] := List.eq_nil_of_length_eq_zero hlen
   have hv : G = !s := by rw [hG]; cases s <;> rfl
   have HV := Lib.hid hv
   clear hG hv hlen hs
   go_enter Tryz.func86, Tryz.ntmps86
   go_wp2_with fail
   go_ret
   exact ⟨by rw [HV.out]; rfl, hbw⟩
  ·
   have hne : l ≠ [] := fun e => by rw [e] at hlen; simp at hlen; omega
   rw [vld_last hs.lim hne, hlen] at hG
   obtain ⟨b, o, rfl, hc⟩ := (hs.below hbw).cells h0
   have hck := hc (n - 1) (by omega)
   have hn0 : ((n : Int) == 0) = false := by simp; omega
   have hi : (0 : Int) ≤ (n : Int) - 1 := by omega
   have hi2 : (n : Int) - 1 < n := by omega
   have hi3 : ((n : Int) - 1).toNat = n - 1 := by omega
   have hw1 : IntKind.i64.wrap ((n : Int) - 1) = (n : Int) - 1 := by simp [IntKind.wrap, IntKind.bits, IntKind.signed]; omega
   by_cases hd : N.dg l (n - 1) = 0
   · have ht : ((N.dg l (n - 1) : Int) != 0) = false := by simp [hd]
     have HG : Hid (G = false) := Lib.hid (by rw [hG]; simp [hd])
     clear hG hc hd
     go_enter Tryz.func86, Tryz.ntmps86
     go_wp2_with fail
     go_ret
     exact ⟨by rw [HG.out]; rfl, hbw⟩
   ·
    have ht : ((N.dg l (n - 1) : Int) != 0) = true := by simpa using hd
    have ht2 : ((N.dg l (n - 1) : Int) == 0) = false := by simpa using hd
    have HG : Hid (G = true) := Lib.hid (by rw [hG]; simp [hd])
    clear hG hc hd
    go_enter Tryz.func86, Tryz.ntmps86
    go_wp2_with fail
    go_ret
    exact ⟨by rw [HG.out]; rfl, hbw⟩
end
section
open Go.RowKit
section
variable {w w' : World} {b b' : Nat} {t : TypeId} {cs : Array Value} {a0 a1 a2 a3 a4 a5 : Value}
theorem Blk.six (h : Blk w b t #[a0, a1, a2, a3, a4, a5]) : w.cell? ⟨b, 0, none⟩ = some a0 ∧ w.cell? ⟨b, 1, none⟩ = some a1 ∧ w.cell? ⟨b, 2, none⟩ = some a2 ∧ w.cell? ⟨b, 3, none⟩ = some a3 ∧ w.cell? ⟨b, 4, none⟩ = some a4 ∧ w.cell? ⟨b, 5, none⟩ = some a5 :=
 ⟨h.cell _, h.cell _, h.cell _, h.cell _, h.cell _, h.cell _⟩
end
theorem made_blk (w : World) (cs : Array Value) (t : TypeId) : ∃ W : World, W = w.alloc (.cells cs t) ∧ Blk W w.heap.size t cs ∧ Below w.heap.size w W := ⟨_, rfl, Blk.new _ _ _, below_alloc1 _ _⟩
inductive T where
 | node (k : Int) (nm : ByteArray) (ns : List ByteArray) (ng : Bool) (mg : List Nat) (ks : List T)
def T.k : T → Int | .node k _ _ _ _ _ => k
def T.nm : T → ByteArray | .node _ nm _ _ _ _ => nm
def T.ns : T → List ByteArray | .node _ _ ns _ _ _ => ns
def T.ng : T → Bool | .node _ _ _ ng _ _ => ng
def T.mg : T → List Nat | .node _ _ _ _ mg _ => mg
def T.ks : T → List T | .node _ _ _ _ _ ks => ks
def t0 : T := .node 0 ⟨#[]⟩ [] false [] []
def sbulk (ns : List ByteArray) : Nat := (ns.map (fun s => s.size + 1)).sum
mutual
def T.bulk : T → Nat
 | .node _ nm ns _ mg ks => nm.size + sbulk ns + mg.length + T.bulks ks + 1
def T.bulks : List T → Nat
 | [] => 0
 | t :: r => t.bulk + T.bulks r
end
theorem T.bulk_pos (t : T) : 0 < t.bulk := by cases t; simp [T.bulk]
theorem T.bulk_kid : ∀ (ks : List T) (i : Nat), i < ks.length → (ks.getD i t0).bulk ≤ T.bulks ks
 | [], i, h => absurd h (by simp)
 | t :: r, 0, _ => by simp [T.bulks]
 | t :: r, i + 1, h => by
  have := T.bulk_kid r i (by simpa using h)
  simp [T.bulks] at this ⊢
  omega
theorem T.len_bulks : ∀ (ks : List T), ks.length ≤ T.bulks ks
 | [] => by simp
 | t :: r => by have := T.len_bulks r; have := T.bulk_pos t; simp [T.bulks]; omega
theorem sbulk_len : ∀ (ns : List ByteArray), ns.length ≤ sbulk ns
 | [] => by simp
 | s :: r => by have := sbulk_len r; simp [sbulk] at this ⊢; omega
theorem sbulk_get : ∀ (ns : List ByteArray) (i : Nat), i < ns.length → (ns.getD i ⟨#[]⟩).size + 1 ≤ sbulk ns
 | [], i, h => absurd h (by simp)
 | s :: r, 0, _ => by simp [sbulk]
 | s :: r, i + 1, h => by
  have := sbulk_get r i (by simpa using h)
  simp [sbulk] at this ⊢
  omega
theorem T.bulk_node {k : Int} {nm : ByteArray} {ns : List ByteArray} {ng : Bool} {mg : List Nat} {ks : List T} {N : Nat} (h : (T.node k nm ns ng mg ks).bulk ≤ N) : nm.size < N ∧ ns.length < N ∧ sbulk ns < N ∧ mg.length < N ∧ ks.length < N ∧ T.bulks ks < N := by
 simp only [T.bulk] at h
 have := T.len_bulks ks
 have := sbulk_len ns
 omega
def StrL (w : World) (R : Nat → Prop) (A : Option Addr) (c : Nat) (ns : List ByteArray) : Prop := ns.length ≤ c ∧ (0 < ns.length → ∃ b o, A = some ⟨b, o, none⟩ ∧ R b ∧ ∀ i, i < ns.length → w.cell? ⟨b, o + i, none⟩ = some (.string (ns.getD i ⟨#[]⟩)))
def SlR (w : World) (R : Nat → Prop) (A : Option Addr) (c : Nat) (l : List Nat) : Prop := Sl w A l.length c l ∧ (0 < l.length → ∀ ad, A = some ad → R ad.block)
abbrev tv (k : Int) (nm : ByteArray) (A1 : Option Addr) (n1 c1 : Nat) (ng : Bool) (A2 : Option Addr) (n2 c2 : Nat) (A3 : Option Addr) (n3 c3 : Nat) : Value :=
 .agg #[.int .i64 k, .string nm, .slice A1 n1 c1, .bool ng, .slice A2 n2 c2, .slice A3 n3 c3]
def six (w : World) (b o : Nat) (v0 v1 v2 v3 v4 v5 : Value) : Prop := w.cell? ⟨b, o, none⟩ = some v0 ∧ w.cell? ⟨b, o + 1, none⟩ = some v1 ∧ w.cell? ⟨b, o + 2, none⟩ = some v2 ∧ w.cell? ⟨b, o + 3, none⟩ = some v3 ∧ w.cell? ⟨b, o + 4, none⟩ = some v4 ∧ w.cell? ⟨b, o + 5, none⟩ = some v5
mutual
def T.In (w : World) (R : Nat → Prop) : T → Value → Prop
 | .node k nm ns ng mg ks, v => ∃ A1 c1 A2 c2 A3 c3, v = tv k nm A1 ns.length c1 ng A2 mg.length c2 A3 ks.length c3 ∧ StrL w R A1 c1 ns ∧ SlR w R A2 c2 mg ∧ ks.length ≤ c3 ∧ (0 < ks.length → ∃ b o, A3 = some ⟨b, o, none⟩ ∧ R b ∧ T.Ins w R b o ks)
def T.Ins (w : World) (R : Nat → Prop) (b : Nat) : Nat → List T → Prop
 | _, [] => True
 | o, t :: r => (∃ v0 v1 v2 v3 v4 v5, six w b o v0 v1 v2 v3 v4 v5 ∧ T.In w R t (.agg #[v0, v1, v2, v3, v4, v5])) ∧ T.Ins w R b (o + 6) r
end
theorem StrL.keep {w w' : World} {R R' : Nat → Prop} {A : Option Addr} {c : Nat} {ns : List ByteArray} (h : StrL w R A c ns) (hk : ∀ p v, R p.block → w.cell? p = some v → w'.cell? p = some v) (hR : ∀ b, R b → R' b) : StrL w' R' A c ns := by
 refine ⟨h.1, fun hn => ?_⟩
 obtain ⟨b, o, e, hb, hc⟩ := h.2 hn
 exact ⟨b, o, e, hR b hb, fun i hi => hk _ _ hb (hc i hi)⟩
theorem SlR.keep {w w' : World} {R R' : Nat → Prop} {A : Option Addr} {c : Nat} {l : List Nat} (h : SlR w R A c l) (hk : ∀ p v, R p.block → w.cell? p = some v → w'.cell? p = some v) (hR : ∀ b, R b → R' b) : SlR w' R' A c l := by
 refine ⟨⟨h.1.len, h.1.cap, h.1.lim, fun hn => ?_⟩, fun hn ad e => hR _ (h.2 hn ad e)⟩
 obtain ⟨b, o, e, hc⟩ := h.1.cells hn
 exact ⟨b, o, e, fun k hk' => hk _ _ (show R b from h.2 hn _ e) (hc k hk')⟩
theorem six.keep {w w' : World} {b o : Nat} {v0 v1 v2 v3 v4 v5 : Value} (h : six w b o v0 v1 v2 v3 v4 v5) (hk : ∀ p v, p.block = b → w.cell? p = some v → w'.cell? p = some v) : six w' b o v0 v1 v2 v3 v4 v5 :=
 ⟨hk _ _ rfl h.1, hk _ _ rfl h.2.1, hk _ _ rfl h.2.2.1, hk _ _ rfl h.2.2.2.1, hk _ _ rfl h.2.2.2.2.1, hk _ _ rfl h.2.2.2.2.2⟩
mutual
theorem T.In.keep {w w' : World} {R R' : Nat → Prop} (hk : ∀ p v, R p.block → w.cell? p = some v → w'.cell? p = some v) (hR : ∀ b, R b → R' b) : ∀ (t : T) (v : Value), T.In w R t v → T.In w' R' t v
 | .node k nm ns ng mg ks, v, h => by
  simp only [T.In] at h ⊢
  obtain ⟨A1, c1, A2, c2, A3, c3, e, h1, h2, h3, h4⟩ := h
  refine ⟨A1, c1, A2, c2, A3, c3, e, h1.keep hk hR, h2.keep hk hR, h3, fun hn => ?_⟩
  obtain ⟨b, o, e, hb, hi⟩ := h4 hn
  exact ⟨b, o, e, hR b hb, T.Ins.keep hk hR b hb ks o hi⟩
theorem T.Ins.keep {w w' : World} {R R' : Nat → Prop} (hk : ∀ p v, R p.block → w.cell? p = some v → w'.cell? p = some v) (hR : ∀ b, R b → R' b) (b : Nat) (hb : R b) : ∀ (ks : List T) (o : Nat), T.Ins w R b o ks → T.Ins w' R' b o ks
 | [], _, _ => by simp only [T.Ins]
 | t :: r, o, h => by
  simp only [T.Ins] at h ⊢
  obtain ⟨⟨v0, v1, v2, v3, v4, v5, h6, ht⟩, hr⟩ := h
  exact ⟨⟨v0, v1, v2, v3, v4, v5, h6.keep (fun p v e => hk p v (e ▸ hb)), T.In.keep hk hR t _ ht⟩, T.Ins.keep hk hR b hb r (o + 6) hr⟩
end
theorem T.In.below {w w' : World} {R : Nat → Prop} {t : T} {v : Value} (h : T.In w R t v) (hb : Below w.heap.size w w') : T.In w' R t v :=
 T.In.keep (fun p _ _ hp => (hb.cell (World.block_lt_of_cell? w p hp)).trans hp) (fun _ h => h) t v h
theorem T.In.mono {w : World} {R R' : Nat → Prop} {t : T} {v : Value} (h : T.In w R t v) (hR : ∀ b, R b → R' b) : T.In w R' t v := T.In.keep (fun _ _ _ h => h) hR t v h
theorem T.In.fr {w w' : World} {R : Nat → Prop} {t : T} {v : Value} (h : T.In w R t v) (hb : ∀ b, R b → w'.heap[b]? = w.heap[b]?) : T.In w' R t v :=
 T.In.keep (fun p _ hp hc => (World.cell?_of_block (a := p) (hb _ hp)).trans hc) (fun _ h => h) t v h
theorem T.Ins.get {w : World} {R : Nat → Prop} {b : Nat} : ∀ (ks : List T) (o i : Nat), T.Ins w R b o ks → i < ks.length → ∃ v0 v1 v2 v3 v4 v5, six w b (o + i * 6) v0 v1 v2 v3 v4 v5 ∧ T.In w R (ks.getD i t0) (.agg #[v0, v1, v2, v3, v4, v5])
 | [], _, i, _, hi => absurd hi (by simp)
 | t :: r, o, 0, h, _ => by
  simp only [T.Ins] at h
  simpa using h.1
 | t :: r, o, i + 1, h, hi => by
  simp only [T.Ins] at h
  have := T.Ins.get r (o + 6) i h.2 (by simpa using hi)
  rw [show o + (i + 1) * 6 = o + 6 + i * 6 by omega]
  simpa using this
theorem T.In.form {w : World} {R : Nat → Prop} {t : T} {v : Value} (h : T.In w R t v) : ∃ A1 c1 A2 c2 A3 c3, v = tv t.k t.nm A1 t.ns.length c1 t.ng A2 t.mg.length c2 A3 t.ks.length c3 ∧ StrL w R A1 c1 t.ns ∧ SlR w R A2 c2 t.mg ∧ t.ks.length ≤ c3 ∧
    (0 < t.ks.length → ∃ b o, A3 = some ⟨b, o, none⟩ ∧ ∀ i, i < t.ks.length → ∃ v0 v1 v2 v3 v4 v5, six w b (o + i * 6) v0 v1 v2 v3 v4 v5 ∧ T.In w R (t.ks.getD i t0) (.agg #[v0, v1, v2, v3, v4, v5])) := by
  cases t
  simp only [T.In] at h
  obtain ⟨A1, c1, A2, c2, A3, c3, e, h1, h2, h3, h4⟩ := h
  refine ⟨A1, c1, A2, c2, A3, c3, e, h1, h2, h3, fun hn => ?_⟩
  obtain ⟨b, o, e, _, hi⟩ := h4 hn
  exact ⟨b, o, e, fun i hlt => T.Ins.get _ o i hi hlt⟩
theorem six.below {w w' : World} {b o : Nat} {v0 v1 v2 v3 v4 v5 : Value} (h : six w b o v0 v1 v2 v3 v4 v5) (hb : Below w.heap.size w w') : six w' b o v0 v1 v2 v3 v4 v5 := h.keep (fun _ _ _ hp => keep_cell hp hb)
def KidAt (w : World) (R : Nat → Prop) (b o : Nat) (u : T) : Prop := ∃ A1 c1 A2 c2 A3 c3, six w b o (.int .i64 u.k) (.string u.nm) (.slice A1 u.ns.length c1) (.bool u.ng) (.slice A2 u.mg.length c2) (.slice A3 u.ks.length c3) ∧
 T.In w R u (tv u.k u.nm A1 u.ns.length c1 u.ng A2 u.mg.length c2 A3 u.ks.length c3)
theorem T.In.open {w : World} {R : Nat → Prop} {t : T} {v : Value} (h : T.In w R t v) : ∃ A1 c1 A2 c2 A3 c3, v = tv t.k t.nm A1 t.ns.length c1 t.ng A2 t.mg.length c2 A3 t.ks.length c3 ∧ StrL w R A1 c1 t.ns ∧ SlR w R A2 c2 t.mg ∧ t.ks.length ≤ c3 ∧
    (0 < t.ks.length → ∃ b o, A3 = some ⟨b, o, none⟩ ∧ ∀ i, i < t.ks.length → KidAt w R b (o + i * 6) (t.ks.getD i t0)) := by
  obtain ⟨A1, c1, A2, c2, A3, c3, e, h1, h2, h3, h4⟩ := h.form
  refine ⟨A1, c1, A2, c2, A3, c3, e, h1, h2, h3, fun hn => ?_⟩
  obtain ⟨b, o, e, hi⟩ := h4 hn
  refine ⟨b, o, e, fun i hlt => ?_⟩
  obtain ⟨v0, v1, v2, v3, v4, v5, h6, ht⟩ := hi i hlt
  have ht' := ht
  obtain ⟨B1, d1, B2, d2, B3, d3, e', _⟩ := ht.form
  injection e' with e'
  injection e' with e'
  simp only [List.cons.injEq, and_true] at e'
  obtain ⟨rfl, rfl, rfl, rfl, rfl, rfl⟩ := e'
  exact ⟨B1, d1, B2, d2, B3, d3, h6, ht'⟩
theorem KidAt.below {w w' : World} {R : Nat → Prop} {b o : Nat} {u : T} (h : KidAt w R b o u) (hb : Below w.heap.size w w') : KidAt w' R b o u := by
 obtain ⟨A1, c1, A2, c2, A3, c3, h6, ht⟩ := h
 exact ⟨A1, c1, A2, c2, A3, c3, h6.keep (fun p _ _ hp => (hb.cell (World.block_lt_of_cell? w p hp)).trans hp), ht.below hb⟩
theorem take_snoc {α : Type} (l : List α) (d : α) (i : Nat) (h : i < l.length) : l.take (i + 1) = l.take i ++ [l.getD i d] := by
 rw [List.take_succ_eq_append_getElem h]
 simp [List.getD, h]
theorem T.kid_bulk {t : T} {N i : Nat} (h : t.bulk ≤ N + 1) (hi : i < t.ks.length) : (t.ks.getD i t0).bulk ≤ N := by
 cases t with
 | node k nm ns ng mg ks =>
  have := T.bulk_kid ks i hi
  simp only [T.bulk, T.ks] at h ⊢
  omega
theorem T.len_le {t : T} {N : Nat} (h : t.bulk ≤ N) : t.nm.size ≤ N ∧ t.ns.length ≤ N ∧ sbulk t.ns ≤ N ∧ t.mg.length ≤ N ∧ t.ks.length ≤ N := by
 cases t with
 | node k nm ns ng mg ks =>
  obtain ⟨h1, h2, h3, h4, h5, _⟩ := T.bulk_node h
  exact ⟨by simp only [T.nm]; omega, by simp only [T.ns]; omega, by simp only [T.ns]; omega, by simp only [T.mg]; omega, by simp only [T.ks]; omega⟩
end
end Go.Proofs.YthiadenmljbdaaaGreatDoor
