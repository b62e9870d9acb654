/-
  An argument of type []Step, opened: trees of whatever depth.
-/
import Derived.Test.YtmncamnlmpajbaaRows
import Derived.Test.YtmncamnlmpajbaaSPlain
import Derived.ProofKit
import Derived.OpenShut
import Derived.Deep.Slices
import Derived.ChangeMaps5
namespace Go.Proofs.Ytmncamnlmpajbaa
open Go.ChangeShapes Go.ChangeMaps Go.WideShapes Go.ChangeAt Go.RowKit Go.Deep

theorem own : ownKnob Try.prog.godebug = none := by kernel_rfl
theorem laidOut : laidOutB Try.prog = true := by kernel_rfl
theorem cellsU32 : Try.prog.cellsOf 75 = 1 := by kernel_rfl
theorem cellsStr : Try.prog.cellsOf 9 = 1 := by kernel_rfl
theorem cellsTree : Try.prog.cellsOf 35 = 6 := by kernel_rfl
theorem cellsStep : Try.prog.cellsOf 37 = 8 := by kernel_rfl
theorem cellsInt2 : Try.prog.cellsOf 32 = 2 := by kernel_rfl
theorem cellsNames : Try.prog.cellsOf 29 = 1 := by kernel_rfl
theorem cellsKids : Try.prog.cellsOf 33 = 1 := by kernel_rfl
theorem cellsMag : Try.prog.cellsOf 30 = 1 := by kernel_rfl
theorem cellsI : Try.prog.cellsOf 3 = 1 := by kernel_rfl
theorem cellsB : Try.prog.cellsOf 4 = 1 := by kernel_rfl
section
variable {H : Type} {enc : TypeId × Value → H} {W : World}
def limbs (zs : List Int) : List Nat := zs.map Int.toNat
theorem limbs_dg (zs : List Int) (k : Nat) (h : k < zs.length) (h0 : 0 ≤ zs.getD k 0) : (N.dg (limbs zs) k : Int) = zs.getD k 0 := by
  rw [N.dg_get _ _ (by simpa [limbs] using h)]
  have e : zs.getD k 0 = zs[k] := by simp [List.getD, h]
  rw [e] at h0 ⊢
  simp only [limbs, List.getElem_map]
  omega
theorem lits_bulk : ∀ (l : List Int), (lits (H := H) .u32 l).length ≤ Rows.uptoBulkAll (lits (H := H) .u32 l) := by
  intro l
  induction l with
  | nil => simp [lits, Rows.uptoBulkAll]
  | cons x l ih => simp only [lits, List.map_cons, List.length_cons, Rows.uptoBulkAll, Rows.uptoBulk] at ih ⊢; omega
instance instT : Inhabited T := ⟨t0⟩
/-- The blocks that an argument lies in. -/
abbrev RA (W : World) : Nat → Prop := fun b => b < W.heap.size
theorem lt_of_cell {p : Addr} {v : Value} (h : W.cell? p = some v) : p.block < W.heap.size := World.block_lt_of_cell? W p h
set_option maxRecDepth 100000 in
/-- A cell of type []uint32 that reads. -/
theorem open_row {fuel : Nat} {v : Value} {y : DataW H × List MemPlace} (hf : DataW.trod enc Try.prog W 0 (fun _ => true) true fuel 30 [v] = some y) :
    ∃ A c l, v = .slice A l.length c ∧ SlR W (RA W) A c l ∧ l.length + 1 ≤ Rows.uptoBulk y.1 := by
  rcases open_ints Try.underlying30 Try.underlying75 cellsU32 hf with ⟨hcs, hx⟩ | ⟨a, len, cap, zs, hcs, _, hl, hm, hz, hx, hcell, hwz⟩
  · simp at hcs
    subst hcs
    subst hx
    exact ⟨none, 0, [], rfl, ⟨Sl.nil _ _ _, fun h => absurd h (by simp)⟩, by simp [Rows.uptoBulk]⟩
  · simp at hcs
    subst hcs
    subst hx
    simp only [if_true] at hz
    have hb : ∀ k, k < zs.length → 0 ≤ zs.getD k 0 ∧ zs.getD k 0 < 4294967296 := fun k hk => by
      have e : zs.getD k 0 = zs[k] := by simp [List.getD, hk]
      rw [e]
      have := bounds_u32 (hwz zs[k] (List.getElem_mem hk))
      omega
    have hlen : (limbs (zs.take len)).length = len := by simp [limbs]; omega
    have hsl : Sl W (some a) len cap (limbs (zs.take len)) := by
      refine ⟨hlen, hl, ?_, ?_⟩
      · refine N.Lim.of_dg fun k hk => ?_
        rw [hlen] at hk
        have e : (zs.take len).getD k 0 = zs.getD k 0 := by simp [List.getD, hk]
        have h1 := hb k (by omega)
        have h2 := limbs_dg (zs.take len) k (by simp; omega) (by rw [e]; exact h1.1)
        rw [e] at h2; omega
      · intro hn
        obtain ⟨b, off, spot⟩ := a
        have hspot : spot = none := by simpa [Addr.add] using World.cell?_spot (hcell 0 (by omega))
        subst hspot
        refine ⟨b, off, rfl, fun k hk => ?_⟩
        have e : (zs.take len).getD k 0 = zs.getD k 0 := by simp [List.getD, hk]
        have h1 := hb k (by omega)
        have h2 := limbs_dg (zs.take len) k (by simp; omega) (by rw [e]; exact h1.1)
        have h3 := hcell k (by omega)
        rw [Addr.add_lit] at h3
        rw [h3, h2, e]
    refine ⟨some a, cap, limbs (zs.take len), by rw [hlen], ⟨by rw [hlen]; exact hsl, fun hn ad e => ?_⟩, ?_⟩
    · injection e with e
      subst e
      obtain ⟨b, o, e, hc⟩ := hsl.cells (by omega)
      injection e with e
      subst e
      exact lt_of_cell (hc 0 (by omega))
    · rw [hlen]
      have h2 := lits_bulk (H := H) (zs.take len)
      simp only [lits, List.length_map, List.length_take] at h2
      simp only [Rows.uptoBulk, lits]
      omega
theorem bulk_pos : ∀ (d : DataW H), 1 ≤ Rows.uptoBulk d := by
  intro d
  cases d <;> try (simp only [Rows.uptoBulk]; omega)
  rename_i l
  cases l <;> simp only [Rows.uptoBulk] <;> omega
theorem bulk_map (f : Nat → DataW H) (g : Nat → Nat) : ∀ (n _k : Nat), (∀ i, i < n → g i ≤ Rows.uptoBulk (f i)) → ((List.range n).map g).sum ≤ Rows.uptoBulkAll ((List.range n).map f) := by
  intro n _ h
  have key : ∀ (l : List Nat), (∀ i ∈ l, g i ≤ Rows.uptoBulk (f i)) → (l.map g).sum ≤ Rows.uptoBulkAll (l.map f) := by
    intro l
    induction l with
    | nil => intro _; simp [Rows.uptoBulkAll]
    | cons x l ih =>
      intro hl
      have h1 := hl x List.mem_cons_self
      have h2 := ih (fun i hi => hl i (List.mem_cons_of_mem _ hi))
      simp only [List.map_cons, List.sum_cons, Rows.uptoBulkAll]
      omega
  exact key _ (fun i hi => h i (List.mem_range.1 hi))
theorem bulk_elem (f : Nat → DataW H) (n i : Nat) (hi : i < n) : Rows.uptoBulk (f i) ≤ Rows.uptoBulkAll ((List.range n).map f) := by
  have key : ∀ (l : List Nat), i ∈ l → Rows.uptoBulk (f i) ≤ Rows.uptoBulkAll (l.map f) := by
    intro l
    induction l with
    | nil => intro h; cases h
    | cons x l ih =>
      intro hl
      simp only [List.map_cons, Rows.uptoBulkAll]
      rcases List.mem_cons.1 hl with rfl | hl
      · omega
      · have := ih hl; omega
  exact key _ (List.mem_range.2 hi)
set_option maxRecDepth 100000 in
/-- A cell of type []string that reads. -/
theorem open_strs {fuel : Nat} {v : Value} {y : DataW H × List MemPlace} (hf : DataW.trod enc Try.prog W 0 (fun _ => true) true fuel 29 [v] = some y) :
    ∃ A c ns, v = .slice A ns.length c ∧ StrL W (RA W) A c ns ∧ sbulk ns + 1 ≤ Rows.uptoBulk y.1 := by
  rcases open_slice1 Try.underlying29 cellsStr hf with ⟨hcs, hx⟩ | ⟨a, len, cap, m, n, V, D, Pl, hcs, _, hl, hm, hmm, hx, hall⟩
  · simp at hcs
    subst hcs
    subst hx
    exact ⟨none, 0, [], rfl, ⟨Nat.le_refl _, fun h => absurd h (by simp)⟩, by simp [sbulk, Rows.uptoBulk]⟩
  · simp at hcs
    subst hcs
    subst hx
    simp only [if_true] at hmm
    subst hmm
    obtain ⟨S, hS⟩ := choose_lt (α := ByteArray) (n := len) (p := fun i s => V i = .string s ∧ s.size + 1 ≤ Rows.uptoBulk (D i)) (fun i hi => by
      obtain ⟨_, h2⟩ := hall i (by omega)
      obtain ⟨s, hs, hd, _⟩ := DataW.trod_string Try.underlying9 h2
      refine ⟨s, by simpa using hs, ?_⟩
      simp only [Prod.mk.injEq] at hd
      rw [hd.1]
      simp only [Rows.uptoBulk, Array.length_toList]
      exact Nat.le_refl _)
    have hlen : ((List.range len).map S).length = len := by simp
    refine ⟨some a, m, (List.range len).map S, by rw [hlen], ⟨by rw [hlen]; exact hl, fun hn => ?_⟩, ?_⟩
    · rw [hlen] at hn
      obtain ⟨b, off, spot⟩ := a
      have hspot : spot = none := by simpa [Addr.add] using World.cell?_spot (hall 0 (by omega)).1
      subst hspot
      have h0 := (hall 0 (by omega)).1
      rw [Addr.add_lit] at h0
      refine ⟨b, off, rfl, lt_of_cell h0, fun i hi => ?_⟩
      rw [hlen] at hi
      have h1 := (hall i (by omega)).1
      rw [Addr.add_lit] at h1
      rw [h1, (hS i hi).1]
      simp [List.getD, hi]
    · have := bulk_map D (fun i => (S i).size + 1) len 0 (fun i hi => (hS i hi).2)
      simp only [sbulk, List.map_map, Rows.uptoBulk]
      simp only [Function.comp_def]
      omega
theorem T.Ins.of {w : World} {R : Nat → Prop} {b : Nat} : ∀ (ks : List T) (o : Nat), (∀ i, i < ks.length → ∃ v0 v1 v2 v3 v4 v5, six w b (o + i * 6) v0 v1 v2 v3 v4 v5 ∧ T.In w R (ks.getD i t0) (.agg #[v0, v1, v2, v3, v4, v5])) → T.Ins w R b o ks
  | [], _, _ => by simp only [T.Ins]
  | t :: r, o, h => by
    simp only [T.Ins]
    refine ⟨by simpa using h 0 (by simp), T.Ins.of r (o + 6) fun i hi => ?_⟩
    have := h (i + 1) (by simpa using hi)
    rw [show o + (i + 1) * 6 = o + 6 + i * 6 by omega] at this
    simpa using this
theorem bulks_map (f : Nat → T) : ∀ (l : List Nat), T.bulks (l.map f) = (l.map (fun i => (f i).bulk)).sum
  | [] => rfl
  | x :: l => by simp [T.bulks, bulks_map f l]
set_option maxRecDepth 100000 in
set_option maxHeartbeats 800000 in
/-- A tree that reads. -/
theorem open_tree : ∀ (N fuel : Nat) (cs : List Value) (y : DataW H × List MemPlace), Rows.uptoBulk y.1 ≤ N → DataW.trod enc Try.prog W 0 (fun _ => true) true fuel 35 cs = some y →
    ∃ t v0 v1 v2 v3 v4 v5, cs = [v0, v1, v2, v3, v4, v5] ∧ T.In W (RA W) t (.agg #[v0, v1, v2, v3, v4, v5]) ∧ t.bulk ≤ Rows.uptoBulk y.1
  | 0, fuel, cs, y, hN, h => by have := bulk_pos y.1; omega
  | N + 1, fuel, cs, y, hN, h => by
    have ih := open_tree N
    obtain ⟨xs, k, hk, hxy, hlen, hxl, hf⟩ := DataW.trod_struct Try.underlying35 h
    rw [cellsTree] at hlen
    match xs, hxl, cs, hlen with
    | [y0, y1, y2, y3, y4], _, [v0, v1, v2, v3, v4, v5], _ =>
      have g0 := hf 0 _ rfl
      have g1 := hf 1 _ rfl
      have g2 := hf 2 _ rfl
      have g3 := hf 3 _ rfl
      have g4 := hf 4 _ rfl
      simp [cellsI, cellsStr, cellsNames, cellsInt2, cellsKids] at g0 g1 g2 g3 g4
      obtain ⟨kz, e0, r0, _⟩ := DataW.trod_int Try.underlying3 g0
      obtain ⟨nm, e1, r1, _⟩ := DataW.trod_string Try.underlying9 g1
      obtain ⟨A1, c1, ns, rfl, hns, hb2⟩ := open_strs g2
      obtain ⟨zs, k3, hk3, hxy3, hlen3, hxl3, hf3⟩ := DataW.trod_struct Try.underlying32 g3
      simp only [List.cons.injEq, and_true] at e0 e1
      subst e0; subst e1
      match zs, hxl3 with
      | [z0, z1], _ =>
        have q0 := hf3 0 _ rfl
        have q1 := hf3 1 _ rfl
        simp [cellsB, cellsMag] at q0 q1
        obtain ⟨ng, e3, r3⟩ := DataW.trod_bool Try.underlying4 q0
        obtain ⟨A2, c2, mg, rfl, hmg, hb4⟩ := open_row q1
        simp only [List.cons.injEq, and_true] at e3
        subst e3
        have hsz : nm.size = nm.data.size := rfl
        have hbulk : nm.size + sbulk ns + mg.length + Rows.uptoBulk y4.1 + 1 ≤ Rows.uptoBulk y.1 := by
          rw [hxy]
          simp only [List.map_cons, List.map_nil, Rows.uptoBulk, Rows.uptoBulkAll]
          rw [hxy3, r0, r1]
          simp only [List.map_cons, List.map_nil, Rows.uptoBulk, Rows.uptoBulkAll, Array.length_toList]
          rw [r3]
          simp only [Rows.uptoBulk]
          omega
        obtain ⟨A3, c3, ks, rfl, hc3, hks, hb5⟩ : ∃ A3 c3 ks, v5 = .slice A3 ks.length c3 ∧ ks.length ≤ c3 ∧ (0 < ks.length → ∃ b o, A3 = some ⟨b, o, none⟩ ∧ RA W b ∧ T.Ins W (RA W) b o ks) ∧ T.bulks ks + 1 ≤ Rows.uptoBulk y4.1 := by
          rcases open_slice Try.underlying33 g4 with ⟨hcs, hx⟩ | ⟨a, len, cap, m, n, D, Pl, hcs, _, hl, hm, hmm, hx, hall⟩
          · simp only [List.cons.injEq, and_true] at hcs
            subst hcs
            subst hx
            exact ⟨none, 0, [], rfl, Nat.le_refl _, fun h => absurd h (by simp), by simp [T.bulks, Rows.uptoBulk]⟩
          · simp only [List.cons.injEq, and_true] at hcs
            subst hcs
            subst hx
            simp only [if_true] at hmm
            subst hmm
            have hDN : ∀ i, i < len → Rows.uptoBulk (D i) ≤ N := fun i hi => by
              have h1 := bulk_elem D len i hi
              simp only [Rows.uptoBulk] at hbulk
              omega
            obtain ⟨S, hS⟩ := choose_lt (α := T) (n := len) (p := fun i t => (∃ v0 v1 v2 v3 v4 v5, W.cells? 0 (a.add (i * 6)) 6 = some [v0, v1, v2, v3, v4, v5] ∧ T.In W (RA W) t (.agg #[v0, v1, v2, v3, v4, v5])) ∧ t.bulk ≤ Rows.uptoBulk (D i)) (fun i hi => by
              obtain ⟨cs', h1, h2⟩ := hall i (by omega)
              rw [cellsTree] at h1
              obtain ⟨t, v0, v1, v2, v3, v4, v5, rfl, hin, hb⟩ := ih n cs' (D i, Pl i) (hDN i hi) h2
              exact ⟨t, ⟨v0, v1, v2, v3, v4, v5, h1, hin⟩, hb⟩)
            have hlen' : ((List.range len).map S).length = len := by simp
            refine ⟨some a, m, (List.range len).map S, by rw [hlen'], by rw [hlen']; exact hl, fun hn => ?_, ?_⟩
            · rw [hlen'] at hn
              obtain ⟨⟨w0, w1, w2, w3, w4, w5, hc0, _⟩, _⟩ := hS 0 hn
              obtain ⟨_, _, hcell⟩ := World.cells?_some hc0
              have h00 := hcell 0 (by omega)
              obtain ⟨b, off, spot⟩ := a
              have hspot : spot = none := by simpa [Addr.add] using World.cell?_spot (show W.cell? _ = some w0 from h00)
              subst hspot
              refine ⟨b, off, rfl, ?_, T.Ins.of _ _ fun i hi => ?_⟩
              · have := lt_of_cell (show W.cell? _ = some w0 from h00)
                simpa [Addr.add_lit] using this
              · rw [hlen'] at hi
                obtain ⟨⟨w0, w1, w2, w3, w4, w5, hci, hin⟩, _⟩ := hS i hi
                obtain ⟨_, _, hce⟩ := World.cells?_some hci
                have j0 := hce 0 (by omega)
                have j1 := hce 1 (by omega)
                have j2 := hce 2 (by omega)
                have j3 := hce 3 (by omega)
                have j4 := hce 4 (by omega)
                have j5 := hce 5 (by omega)
                rw [Addr.add_lit, Addr.add_lit] at j0 j1 j2 j3 j4 j5
                have e : ((List.range len).map S).getD i t0 = S i := by simp [List.getD, hi]
                rw [e]
                exact ⟨w0, w1, w2, w3, w4, w5, ⟨j0, j1, j2, j3, j4, j5⟩, hin⟩
            · have := bulk_map D (fun i => (S i).bulk) len 0 (fun i hi => (hS i hi).2)
              rw [bulks_map]
              simp only [Rows.uptoBulk]
              omega
        refine ⟨.node kz nm ns ng mg ks, _, _, _, _, _, _, rfl, ?_, ?_⟩
        · simp only [T.In]
          exact ⟨A1, c1, A2, c2, A3, c3, rfl, hns, hmg, hc3, hks⟩
        · simp only [T.bulk]
          omega
set_option maxRecDepth 100000 in
set_option maxHeartbeats 800000 in
/-- The argument. -/
theorem open_steps {base : Nat} {v : Value} {d : DataW H} {p : List MemPlace} (hval : Value.okWide Try.prog W .any base 22 v) (h : DataW.Trod enc Try.prog W 0 (fun _ => true) true 22 v d p) (hlt : ∀ x ∈ p, x.block < W.heap.size) (hbk : Rows.uptoBulk d ≤ 1048576) :
    (∃ xs, StepsIn W v xs) ∧
      ∀ W', Below W.heap.size W W' → DataW.Trod enc Try.prog W' 0 (fun b => decide (b < W.heap.size)) true 22 v d p := by
  refine ⟨?_, fun W' hb => Below.trod laidOut (by kernel_rfl) (of_decide_eq_true (by kernel_rfl)) h hb hlt⟩
  obtain ⟨a0, len, cap, rfl⟩ := okWide_slice Try.underlying22 hval
  obtain ⟨fuel, hf⟩ := h
  rcases open_slice Try.underlying22 hf with ⟨hcs, hx⟩ | ⟨a, len', cap', m, n, D, Pl, hcs, _, hl, hm, hmm, hx, hall⟩
  · simp [Value.cells] at hcs
    obtain ⟨rfl, rfl, rfl⟩ := hcs
    exact ⟨[], none, 0, rfl, Nat.le_refl _, by simp, fun h => absurd h (by simp)⟩
  · simp [Value.cells] at hcs
    obtain ⟨rfl, rfl, rfl⟩ := hcs
    simp only [Prod.mk.injEq] at hx
    obtain ⟨rfl, rfl⟩ := hx
    simp only [if_true] at hmm
    subst hmm
    simp only [Rows.uptoBulk] at hbk
    have hDN : ∀ i, i < len → Rows.uptoBulk (D i) ≤ 1048576 := fun i hi => by
      have h1 := bulk_elem D len i hi
      omega
    have hln : len ≤ 1048576 := by
      have h1 := bulk_map D (fun _ => 1) len 0 (fun i _ => bulk_pos (D i))
      have h2 : ∀ l : List Nat, (l.map (fun _ => 1)).sum = l.length := by
        intro l
        induction l with
        | nil => rfl
        | cons x l ih => simp only [List.map_cons, List.sum_cons, List.length_cons, ih]; omega
      rw [h2, List.length_range] at h1
      omega
    obtain ⟨S, hS⟩ := choose_lt (α := Stp) (n := len) (p := fun i x => ∀ b o, a = ⟨b, o, none⟩ → StepAt W (RA W) b (o + i * 8) x) (fun i hi => by
      obtain ⟨cs', h1, h2⟩ := hall i (by omega)
      rw [cellsStep] at h1
      obtain ⟨_, hlen, hcell⟩ := World.cells?_some h1
      obtain ⟨xs, k, hk, hxy, _, hxl, hf'⟩ := DataW.trod_struct Try.underlying37 h2
      match xs, hxl, cs', hlen with
      | [y0, y1, y2], _, [v0, v1, v2, v3, v4, v5, v6, v7], _ =>
        have g0 := hf' 0 _ rfl
        have g1 := hf' 1 _ rfl
        have g2 := hf' 2 _ rfl
        simp [cellsI, cellsStr, cellsTree] at g0 g1 g2
        obtain ⟨kz, e0, r0, _⟩ := DataW.trod_int Try.underlying3 g0
        obtain ⟨nm, e1, r1, _⟩ := DataW.trod_string Try.underlying9 g1
        obtain ⟨t, w0, w1, w2, w3, w4, w5, e2, hin, hb⟩ := open_tree (Rows.uptoBulk y2.1) _ _ _ (Nat.le_refl _) g2
        simp only [List.cons.injEq, and_true] at e0 e1 e2
        obtain ⟨rfl, rfl, rfl, rfl, rfl, rfl⟩ := e2
        subst e0; subst e1
        have hDi := hDN i hi
        have hsz : nm.size = nm.data.size := rfl
        simp only [Prod.mk.injEq] at hxy
        rw [hxy.1] at hDi
        simp only [List.map_cons, List.map_nil, Rows.uptoBulk, Rows.uptoBulkAll] at hDi
        rw [r0, r1] at hDi
        simp only [Rows.uptoBulk, Array.length_toList] at hDi
        refine ⟨(kz, nm, t), fun b o e => ?_⟩
        subst e
        have j0 := hcell 0 (by omega)
        have j1 := hcell 1 (by omega)
        have j2 := hcell 2 (by omega)
        have j3 := hcell 3 (by omega)
        have j4 := hcell 4 (by omega)
        have j5 := hcell 5 (by omega)
        have j6 := hcell 6 (by omega)
        have j7 := hcell 7 (by omega)
        rw [Addr.add_lit, Addr.add_lit] at j0 j1 j2 j3 j4 j5 j6 j7
        obtain ⟨B1, d1, B2, d2, B3, d3, e', _⟩ := hin.form
        injection e' with e'
        injection e' with e'
        simp only [List.cons.injEq, and_true] at e'
        obtain ⟨rfl, rfl, rfl, rfl, rfl, rfl⟩ := e'
        exact ⟨j0, j1, ⟨B1, d1, B2, d2, B3, d3, ⟨j2, j3, j4, j5, j6, j7⟩, hin⟩, by show nm.size ≤ 1048576; omega, by show t.bulk ≤ 1048576; omega⟩)
    have hlen' : ((List.range len).map S).length = len := by simp
    refine ⟨(List.range len).map S, some a, m, by rw [hlen'], by rw [hlen']; exact hl, by rw [hlen']; exact hln, fun hn => ?_⟩
    rw [hlen'] at hn
    obtain ⟨cs', h1, h2⟩ := hall 0 (by omega)
    rw [cellsStep] at h1
    obtain ⟨_, hlen, hcell⟩ := World.cells?_some h1
    have h00 := hcell 0 (by omega)
    match cs', hlen with
    | [v0, v1, v2, v3, v4, v5, v6, v7], _ =>
      obtain ⟨b, off, spot⟩ := a
      have hspot : spot = none := by simpa [Addr.add] using World.cell?_spot (show W.cell? _ = some v0 from h00)
      subst hspot
      refine ⟨b, off, rfl, fun i hi => ?_⟩
      rw [hlen'] at hi
      have e : ((List.range len).map S).getD i stp0 = S i := by simp [List.getD, hi]
      rw [e]
      exact hS i hi b off rfl
end
end Go.Proofs.Ytmncamnlmpajbaa
