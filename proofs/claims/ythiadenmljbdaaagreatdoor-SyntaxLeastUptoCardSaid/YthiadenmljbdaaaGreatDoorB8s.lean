/-
  s: the parts YOpen WBuild WByteD of the proof.
-/
import Derived.Test.YthiadenmljbdaaaGreatDoorB3s
import Derived.Test.YthiadenmljbdaaaGreatDoorB7s
import Derived.Deep.Slices
import Derived.Test.YthiadenmljbdaaaGreatDoorB6s
import Derived.Lib.Builder
import Derived.Lib.OthersKept
import Derived.Lib.Strings
import Derived.Shelf.Strings.Builder1
import Derived.Laws.Externs
import Derived.Defers
section
namespace Go.Proofs.YthiadenmljbdaaaGreatDoor
open Go.RowKit
open Go.ChangeShapes Go.ChangeMaps Go.WideShapes Go.ChangeAt Go.Deep
theorem cellsStr : Tryz.prog.cellsOf 9 = 1 := by kernel_rfl
theorem cellsTree : Tryz.prog.cellsOf 28 = 6 := by kernel_rfl
theorem cellsInt2 : Tryz.prog.cellsOf 25 = 2 := by kernel_rfl
theorem cellsNames : Tryz.prog.cellsOf 22 = 1 := by kernel_rfl
theorem cellsKids : Tryz.prog.cellsOf 26 = 1 := by kernel_rfl
theorem cellsMag : Tryz.prog.cellsOf 23 = 1 := by kernel_rfl
theorem cellsI : Tryz.prog.cellsOf 3 = 1 := by kernel_rfl
theorem cellsB : Tryz.prog.cellsOf 4 = 1 := by kernel_rfl
section
variable {H : Type} {enc : TypeId × Value → H} {W : World}
theorem lits_bulk : ∀ (l : List Int), (lits (H := H) .u32 l).length ≤ Rows.uptoBulkAll (lits (H := H) .u32 l) := by
  intro l
  induction l with
  | nil => simp [lits, Rows.uptoBulkAll]
  | cons x l ih => simp only [lits, List.map_cons, List.length_cons, Rows.uptoBulkAll, Rows.uptoBulk] at ih ⊢; omega
instance instT : Inhabited T := ⟨t0⟩
abbrev RA (W : World) : Nat → Prop := fun b => b < W.heap.size
theorem lt_of_cell {p : Addr} {v : Value} (h : W.cell? p = some v) : p.block < W.heap.size := World.block_lt_of_cell? W p h
set_option maxRecDepth 100000 in
theorem open_row {fuel : Nat} {v : Value} {y : DataW H × List MemPlace} (hf : DataW.trod enc Tryz.prog W 0 (fun _ => true) true fuel 23 [v] = some y) :
    ∃ A c l, v = .slice A l.length c ∧ SlR W (RA W) A c l ∧ l.length + 1 ≤ Rows.uptoBulk y.1 := by
  rcases open_ints Tryz.underlying23 Tryz.underlying69 cellsU32 hf with ⟨hcs, hx⟩ | ⟨a, len, cap, zs, hcs, _, hl, hm, hz, hx, hcell, hwz⟩
  · simp at hcs
    subst hcs
    subst hx
    exact ⟨none, 0, [], rfl, ⟨Sl.nil _ _ _, fun h => absurd h (by simp)⟩, by simp [Rows.uptoBulk]⟩
  · simp at hcs
    subst hcs
    subst hx
    simp only [if_true] at hz
    have hb : ∀ k, k < zs.length → 0 ≤ zs.getD k 0 ∧ zs.getD k 0 < 4294967296 := fun k hk => by
      have e : zs.getD k 0 = zs[k] := by simp [List.getD, hk]
      rw [e]
      have := bounds_u32 (hwz zs[k] (List.getElem_mem hk))
      omega
    have hlen : (limbs (zs.take len)).length = len := by simp [limbs]; omega
    have hsl : Sl W (some a) len cap (limbs (zs.take len)) := by
      refine ⟨hlen, hl, ?_, ?_⟩
      · refine N.Lim.of_dg fun k hk => ?_
        rw [hlen] at hk
        have e : (zs.take len).getD k 0 = zs.getD k 0 := by simp [List.getD, hk]
        have h1 := hb k (by omega)
        have h2 := limbs_dg (zs.take len) k (by simp; omega) (by rw [e]; exact h1.1)
        rw [e] at h2; omega
      · intro hn
        obtain ⟨b, off, spot⟩ := a
        have hspot : spot = none := by simpa [Addr.add] using World.cell?_spot (hcell 0 (by omega))
        subst hspot
        refine ⟨b, off, rfl, fun k hk => ?_⟩
        have e : (zs.take len).getD k 0 = zs.getD k 0 := by simp [List.getD, hk]
        have h1 := hb k (by omega)
        have h2 := limbs_dg (zs.take len) k (by simp; omega) (by rw [e]; exact h1.1)
        have h3 := hcell k (by omega)
        rw [Addr.add_lit] at h3
        rw [h3, h2, e]
    refine ⟨some a, cap, limbs (zs.take len), by rw [hlen], ⟨by rw [hlen]; exact hsl, fun hn ad e => ?_⟩, ?_⟩
    · injection e with e
      subst e
      obtain ⟨b, o, e, hc⟩ := hsl.cells (by omega)
      injection e with e
      subst e
      exact lt_of_cell (hc 0 (by omega))
    · rw [hlen]
      have h2 := lits_bulk (H := H) (zs.take len)
      simp only [lits, List.length_map, List.length_take] at h2
      simp only [Rows.uptoBulk, lits]
      omega
theorem bulk_pos : ∀ (d : DataW H), 1 ≤ Rows.uptoBulk d := by
  intro d
  cases d <;> try (simp only [Rows.uptoBulk]; omega)
  rename_i l
  cases l <;> simp only [Rows.uptoBulk] <;> omega
theorem bulk_map (f : Nat → DataW H) (g : Nat → Nat) : ∀ (n _k : Nat), (∀ i, i < n → g i ≤ Rows.uptoBulk (f i)) → ((List.range n).map g).sum ≤ Rows.uptoBulkAll ((List.range n).map f) := by
  intro n _ h
  have key : ∀ (l : List Nat), (∀ i ∈ l, g i ≤ Rows.uptoBulk (f i)) → (l.map g).sum ≤ Rows.uptoBulkAll (l.map f) := by
    intro l
    induction l with
    | nil => intro _; simp [Rows.uptoBulkAll]
    | cons x l ih =>
      intro hl
      have h1 := hl x List.mem_cons_self
      have h2 := ih (fun i hi => hl i (List.mem_cons_of_mem _ hi))
      simp only [List.map_cons, List.sum_cons, Rows.uptoBulkAll]
      omega
  exact key _ (fun i hi => h i (List.mem_range.1 hi))
theorem bulk_elem (f : Nat → DataW H) (n i : Nat) (hi : i < n) : Rows.uptoBulk (f i) ≤ Rows.uptoBulkAll ((List.range n).map f) := by
  have key : ∀ (l : List Nat), i ∈ l → Rows.uptoBulk (f i) ≤ Rows.uptoBulkAll (l.map f) := by
    intro l
    induction l with
    | nil => intro h; cases h
    | cons x l ih =>
      intro hl
      simp only [List.map_cons, Rows.uptoBulkAll]
      rcases List.mem_cons.1 hl with rfl | hl
      · omega
      · have := ih hl; omega
  exact key _ (List.mem_range.2 hi)
set_option maxRecDepth 100000 in
theorem open_strs {fuel : Nat} {v : Value} {y : DataW H × List MemPlace} (hf : DataW.trod enc Tryz.prog W 0 (fun _ => true) true fuel 22 [v] = some y) :
    ∃ A c ns, v = .slice A ns.length c ∧ StrL W (RA W) A c ns ∧ sbulk ns + 1 ≤ Rows.uptoBulk y.1 := by
  rcases open_slice1 Tryz.underlying22 cellsStr hf with ⟨hcs, hx⟩ | ⟨a, len, cap, m, n, V, D, Pl, hcs, _, hl, hm, hmm, hx, hall⟩
  · simp at hcs
    subst hcs
    subst hx
    exact ⟨none, 0, [], rfl, ⟨Nat.le_refl _, fun h => absurd h (by simp)⟩, by simp [sbulk, Rows.uptoBulk]⟩
  · simp at hcs
    subst hcs
    subst hx
    simp only [if_true] at hmm
    subst hmm
    obtain ⟨S, hS⟩ := choose_lt (α := ByteArray) (n := len) (p := fun i s => V i = .string s ∧ s.size + 1 ≤ Rows.uptoBulk (D i)) (fun i hi => by
      obtain ⟨_, h2⟩ := hall i (by omega)
      obtain ⟨s, hs, hd, _⟩ := DataW.trod_string Tryz.underlying9 h2
      refine ⟨s, by simpa using hs, ?_⟩
      simp only [Prod.mk.injEq] at hd
      rw [hd.1]
      simp only [Rows.uptoBulk, Array.length_toList]
      exact Nat.le_refl _)
    have hlen : ((List.range len).map S).length = len := by simp
    refine ⟨some a, m, (List.range len).map S, by rw [hlen], ⟨by rw [hlen]; exact hl, fun hn => ?_⟩, ?_⟩
    · rw [hlen] at hn
      obtain ⟨b, off, spot⟩ := a
      have hspot : spot = none := by simpa [Addr.add] using World.cell?_spot (hall 0 (by omega)).1
      subst hspot
      have h0 := (hall 0 (by omega)).1
      rw [Addr.add_lit] at h0
      refine ⟨b, off, rfl, lt_of_cell h0, fun i hi => ?_⟩
      rw [hlen] at hi
      have h1 := (hall i (by omega)).1
      rw [Addr.add_lit] at h1
      rw [h1, (hS i hi).1]
      simp [List.getD, hi]
    · have := bulk_map D (fun i => (S i).size + 1) len 0 (fun i hi => (hS i hi).2)
      simp only [sbulk, List.map_map, Rows.uptoBulk]
      simp only [Function.comp_def]
      omega
theorem T.Ins.of {w : World} {R : Nat → Prop} {b : Nat} : ∀ (ks : List T) (o : Nat), (∀ i, i < ks.length → ∃ v0 v1 v2 v3 v4 v5, six w b (o + i * 6) v0 v1 v2 v3 v4 v5 ∧ T.In w R (ks.getD i t0) (.agg #[v0, v1, v2, v3, v4, v5])) → T.Ins w R b o ks
  | [], _, _ => by simp only [T.Ins]
  | t :: r, o, h => by
    simp only [T.Ins]
    refine ⟨by simpa using h 0 (by simp), T.Ins.of r (o + 6) fun i hi => ?_⟩
    have := h (i + 1) (by simpa using hi)
    rw [show o + (i + 1) * 6 = o + 6 + i * 6 by omega] at this
    simpa using this
theorem bulks_map (f : Nat → T) : ∀ (l : List Nat), T.bulks (l.map f) = (l.map (fun i => (f i).bulk)).sum
  | [] => rfl
  | x :: l => by simp [T.bulks, bulks_map f l]
set_option maxRecDepth 100000 in
set_option maxHeartbeats 800000 in
theorem open_tree : ∀ (N fuel : Nat) (cs : List Value) (y : DataW H × List MemPlace), Rows.uptoBulk y.1 ≤ N → DataW.trod enc Tryz.prog W 0 (fun _ => true) true fuel 28 cs = some y →
    ∃ t v0 v1 v2 v3 v4 v5, cs = [v0, v1, v2, v3, v4, v5] ∧ T.In W (RA W) t (.agg #[v0, v1, v2, v3, v4, v5]) ∧ t.bulk ≤ Rows.uptoBulk y.1
  | 0, fuel, cs, y, hN, h => by have := bulk_pos y.1; omega
  | N + 1, fuel, cs, y, hN, h => by
    have ih := open_tree N
    obtain ⟨xs, k, hk, hxy, hlen, hxl, hf⟩ := DataW.trod_struct Tryz.underlying28 h
    rw [cellsTree] at hlen
    match xs, hxl, cs, hlen with
    | [y0, y1, y2, y3, y4], _, [v0, v1, v2, v3, v4, v5], _ =>
      have g0 := hf 0 _ rfl
      have g1 := hf 1 _ rfl
      have g2 := hf 2 _ rfl
      have g3 := hf 3 _ rfl
      have g4 := hf 4 _ rfl
      simp [cellsI, cellsStr, cellsNames, cellsInt2, cellsKids] at g0 g1 g2 g3 g4
      obtain ⟨kz, e0, r0, _⟩ := DataW.trod_int Tryz.underlying3 g0
      obtain ⟨nm, e1, r1, _⟩ := DataW.trod_string Tryz.underlying9 g1
      obtain ⟨A1, c1, ns, rfl, hns, hb2⟩ := open_strs g2
      obtain ⟨zs, k3, hk3, hxy3, hlen3, hxl3, hf3⟩ := DataW.trod_struct Tryz.underlying25 g3
      simp only [List.cons.injEq, and_true] at e0 e1
      subst e0; subst e1
      match zs, hxl3 with
      | [z0, z1], _ =>
        have q0 := hf3 0 _ rfl
        have q1 := hf3 1 _ rfl
        simp [cellsB, cellsMag] at q0 q1
        obtain ⟨ng, e3, r3⟩ := DataW.trod_bool Tryz.underlying4 q0
        obtain ⟨A2, c2, mg, rfl, hmg, hb4⟩ := open_row q1
        simp only [List.cons.injEq, and_true] at e3
        subst e3
        have hsz : nm.size = nm.data.size := rfl
        have hbulk : nm.size + sbulk ns + mg.length + Rows.uptoBulk y4.1 + 1 ≤ Rows.uptoBulk y.1 := by
          rw [hxy]
          simp only [List.map_cons, List.map_nil, Rows.uptoBulk, Rows.uptoBulkAll]
          rw [hxy3, r0, r1]
          simp only [List.map_cons, List.map_nil, Rows.uptoBulk, Rows.uptoBulkAll, Array.length_toList]
          rw [r3]
          simp only [Rows.uptoBulk]
          omega
        obtain ⟨A3, c3, ks, rfl, hc3, hks, hb5⟩ : ∃ A3 c3 ks, v5 = .slice A3 ks.length c3 ∧ ks.length ≤ c3 ∧ (0 < ks.length → ∃ b o, A3 = some ⟨b, o, none⟩ ∧ RA W b ∧ T.Ins W (RA W) b o ks) ∧ T.bulks ks + 1 ≤ Rows.uptoBulk y4.1 := by
          rcases open_slice Tryz.underlying26 g4 with ⟨hcs, hx⟩ | ⟨a, len, cap, m, n, D, Pl, hcs, _, hl, hm, hmm, hx, hall⟩
          · simp only [List.cons.injEq, and_true] at hcs
            subst hcs
            subst hx
            exact ⟨none, 0, [], rfl, Nat.le_refl _, fun h => absurd h (by simp), by simp [T.bulks, Rows.uptoBulk]⟩
          · simp only [List.cons.injEq, and_true] at hcs
            subst hcs
            subst hx
            simp only [if_true] at hmm
            subst hmm
            have hDN : ∀ i, i < len → Rows.uptoBulk (D i) ≤ N := fun i hi => by
              have h1 := bulk_elem D len i hi
              simp only [Rows.uptoBulk] at hbulk
              omega
            obtain ⟨S, hS⟩ := choose_lt (α := T) (n := len) (p := fun i t => (∃ v0 v1 v2 v3 v4 v5, W.cells? 0 (a.add (i * 6)) 6 = some [v0, v1, v2, v3, v4, v5] ∧ T.In W (RA W) t (.agg #[v0, v1, v2, v3, v4, v5])) ∧ t.bulk ≤ Rows.uptoBulk (D i)) (fun i hi => by
              obtain ⟨cs', h1, h2⟩ := hall i (by omega)
              rw [cellsTree] at h1
              obtain ⟨t, v0, v1, v2, v3, v4, v5, rfl, hin, hb⟩ := ih n cs' (D i, Pl i) (hDN i hi) h2
              exact ⟨t, ⟨v0, v1, v2, v3, v4, v5, h1, hin⟩, hb⟩)
            have hlen' : ((List.range len).map S).length = len := by simp
            refine ⟨some a, m, (List.range len).map S, by rw [hlen'], by rw [hlen']; exact hl, fun hn => ?_, ?_⟩
            · rw [hlen'] at hn
              obtain ⟨⟨w0, w1, w2, w3, w4, w5, hc0, _⟩, _⟩ := hS 0 hn
              obtain ⟨_, _, hcell⟩ := World.cells?_some hc0
              have h00 := hcell 0 (by omega)
              obtain ⟨b, off, spot⟩ := a
              have hspot : spot = none := by simpa [Addr.add] using World.cell?_spot (show W.cell? _ = some w0 from h00)
              subst hspot
              refine ⟨b, off, rfl, ?_, T.Ins.of _ _ fun i hi => ?_⟩
              · have := lt_of_cell (show W.cell? _ = some w0 from h00)
                simpa [Addr.add_lit] using this
              · rw [hlen'] at hi
                obtain ⟨⟨w0, w1, w2, w3, w4, w5, hci, hin⟩, _⟩ := hS i hi
                obtain ⟨_, _, hce⟩ := World.cells?_some hci
                have j0 := hce 0 (by omega)
                have j1 := hce 1 (by omega)
                have j2 := hce 2 (by omega)
                have j3 := hce 3 (by omega)
                have j4 := hce 4 (by omega)
                have j5 := hce 5 (by omega)
                rw [Addr.add_lit, Addr.add_lit] at j0 j1 j2 j3 j4 j5
                have e : ((List.range len).map S).getD i t0 = S i := by simp [List.getD, hi]
                rw [e]
                exact ⟨w0, w1, w2, w3, w4, w5, ⟨j0, j1, j2, j3, j4, j5⟩, hin⟩
            · have := bulk_map D (fun i => (S i).bulk) len 0 (fun i hi => (hS i hi).2)
              rw [bulks_map]
              simp only [Rows.uptoBulk]
              omega
        refine ⟨.node kz nm ns ng mg ks, _, _, _, _, _, _, rfl, ?_, ?_⟩
        · simp only [T.In]
          exact ⟨A1, c1, A2, c2, A3, c3, rfl, hns, hmg, hc3, hks⟩
        · simp only [T.bulk]
          omega
set_option maxRecDepth 100000 in
set_option maxHeartbeats 800000 in
theorem open_targ {base : Nat} {v : Value} {d : DataW H} {p : List MemPlace} (hval : Value.okWide Tryz.prog W .any base 28 v) (h : DataW.Trod enc Tryz.prog W 0 (fun _ => true) true 28 v d p) (hlt : ∀ x ∈ p, x.block < W.heap.size) :
    (∃ t, T.In W (RA W) t v ∧ t.bulk ≤ Rows.uptoBulk d) ∧
      ∀ W', Below W.heap.size W W' → DataW.Trod enc Tryz.prog W' 0 (fun b => decide (b < W.heap.size)) true 28 v d p := by
  refine ⟨?_, fun W' hb => Below.trod laidOut (by kernel_rfl) (of_decide_eq_true (by kernel_rfl)) h hb hlt⟩
  obtain ⟨cs, rfl, hsz⟩ := okWide_struct Tryz.underlying28 hval
  rw [cellsTree] at hsz
  obtain ⟨fuel, hf⟩ := h
  obtain ⟨t, v0, v1, v2, v3, v4, v5, hcs, hin, hb⟩ := open_tree (Rows.uptoBulk d) fuel _ (d, p) (Nat.le_refl _) hf
  refine ⟨t, ?_, hb⟩
  have e : cs = #[v0, v1, v2, v3, v4, v5] := by
    simp [Value.cells] at hcs
    exact Array.toList_inj.1 (by simpa using hcs)
  rw [e]
  exact hin
end
end Go.Proofs.YthiadenmljbdaaaGreatDoor
end
section
namespace Go.Proofs.YthiadenmljbdaaaGreatDoor
open Go.RowKit Go.Shelf
attribute [local go_sem] Oper.semAt_some
abbrev TW : TypeId := 79
abbrev TB : TypeId := 5
theorem sizeBld : (Tryz.prog.info? 77).map (·.size) = some 2 := by kernel_rfl
theorem liesBld : liesAt Tryz.prog Tryz.prog.depth TW (2 / Tryz.prog.cellsOf TW) 0 77 1 = true := by kernel_rfl
theorem info_byte : (Tryz.prog.info? TB).map (fun i => (i.zero, i.size, i.bytes)) = some (some (.int .u8 0), 1, 1) := by kernel_rfl
set_option maxHeartbeats 1000000 in
set_option maxRecDepth 100000 in
theorem copyCheck_used (b : Nat) (w : World) (h0 : w.cell? ⟨b, 0, none⟩ = some (.pointer (some ⟨b, 0, none⟩))) :
    Calls Tryz.prog 112 #[.pointer (some ⟨b, 0, none⟩)] w fun e w' => e = .returned (.tuple #[]) ∧ w' = w := by
  obtain ⟨j, hj, _⟩ := Option.map_eq_some_iff.1 sizeBld
  go_enter Tryz.func112, Tryz.ntmps112
  go_wp2
  rw [Lib.run_neq_ptr_same w _ Tryz.underlying75 hj]
  go_wp2
  go_end0
  exact ⟨rfl, rfl⟩
set_option maxHeartbeats 1000000 in
set_option maxRecDepth 100000 in
theorem copyCheck_fresh (b : Nat) (w : World) (h0 : w.cell? ⟨b, 0, none⟩ = some (.pointer none)) (hsh : w.shape? b = some (TW, 2)) (hfz : w.frozen? ⟨b, 0, none⟩ = false) :
    Calls Tryz.prog 112 #[.pointer (some ⟨b, 0, none⟩)] w fun e w' => e = .returned (.tuple #[]) ∧ w' = w.setCell ⟨b, 0, none⟩ (.pointer (some ⟨b, 0, none⟩)) := by
  obtain ⟨j, hj, hjs⟩ := Option.map_eq_some_iff.1 sizeBld
  go_enter Tryz.func112, Tryz.ntmps112
  go_wp2
  rw [Lib.run_to_unsafe w ⟨b, 0, none⟩ Tryz.underlying75 Tryz.underlying165 hj (by rw [hjs]; decide) hsh (Nat.zero_lt_succ 1)]
  simp only [Result.andThen]
  rw [Oper.upon_value]
  go_wp2
  rw [run_callFunc_extern Tryz.func145 (by kernel_rfl) (by kernel_rfl) (by kernel_rfl) (e := Extern.AbiNoEscape.same) (by kernel_rfl)]
  rw [Lib.run_noEscape]
  simp only [Result.andThen]
  rw [Oper.upon_value]
  go_wp2
  rw [Lib.run_from_unsafe w ⟨b, 0, none⟩ Tryz.underlying165 Tryz.underlying75 hj hsh liesBld]
  simp only [Result.andThen]
  rw [Oper.upon_value]
  go_wp2
  go_end0
  exact ⟨rfl, rfl⟩
theorem copyCheck_w (B b : Nat) (bs : List Value) (w : World) (h : Lib.IsBuilder TW TB B b bs w) :
    Calls Tryz.prog 112 #[.pointer (some ⟨b, 0, none⟩)] w fun e w' => e = .returned (.tuple #[]) ∧ (Lib.BuilderAt TW TB B b (.pointer (some ⟨b, 0, none⟩)) bs w' ∧ Below B w w' ∧ Lib.OthersKept TB (some b) w w') := by
  rcases h with h | h
  · refine (copyCheck_fresh b w h.cell0 h.shape h.frozen0).mono ?_
    rintro e w' ⟨rfl, rfl⟩
    exact ⟨rfl, h.used _, (Below.refl B w).setCell (p := ⟨b, 0, none⟩) h.1 _, (Lib.OthersKept.refl _ _ w).setCell ⟨b, 0, none⟩ rfl _⟩
  · refine (copyCheck_used b w h.cell0).mono ?_
    rintro e w' ⟨rfl, rfl⟩
    exact ⟨rfl, h, Below.refl B _, Lib.OthersKept.refl _ _ _⟩
set_option maxHeartbeats 1000000 in
set_option maxRecDepth 100000 in
theorem len_w (B b : Nat) (bs : List Value) (w : World) (h : Lib.IsBuilder TW TB B b bs w) :
    Calls Tryz.prog 44 #[.pointer (some ⟨b, 0, none⟩)] w fun e w' => e = .returned (.int .i64 bs.length) ∧ w' = w := by
  obtain ⟨p, hB, v, hbk, hown, hne⟩ : ∃ p, Lib.BuilderAt TW TB B b p bs w := by
    rcases h with h | h
    · exact ⟨_, h⟩
    · exact ⟨_, h⟩
  obtain ⟨ao, cap, rfl⟩ : ∃ ao cap, v = .slice ao bs.length cap := by
    rcases hown.2 with ⟨hv, h0⟩ | ⟨g, cap, cur, hv, _⟩
    · exact ⟨none, 0, by rw [hv, h0]⟩
    · exact ⟨_, _, hv⟩
  have c1 : w.cell? ⟨b, 1, none⟩ = some (.slice ao bs.length cap) := by rw [Lib.cell_of_heap hbk]; rfl
  go_enter Tryz.func44, Tryz.ntmps44
  go_wp2
  go_ret
  exact ⟨rfl, rfl⟩
theorem own_kind {w : World} {B : Nat} {e : TypeId} {v : Value} {n : Nat} {xs : List Value} (h : w.ownsRow B e 1 v n xs) : ∀ g, v.ownBlock = some g → ∃ c fz, w.heap[g]? = some (.cells c e fz) := by
  intro g hg
  rcases h.2 with ⟨rfl, _⟩ | ⟨g', cap, cur, rfl, _, hh, _⟩
  · simp [Value.ownBlock] at hg
  · have : g' = g := by simpa [Value.ownBlock] using hg
    exact ⟨cur, _, this ▸ hh⟩
theorem neWB : TW ≠ TB := by decide
set_option maxHeartbeats 2000000 in
set_option maxRecDepth 100000 in
theorem wbyte_w (B b : Nat) (bs : List Value) (c : Int) (w : World) (h : Lib.IsBuilder TW TB B b bs w) (hlen : bs.length + 1 ≤ 140737488355328) (hBw : B ≤ w.heap.size) :
    Calls Tryz.prog 76 #[.pointer (some ⟨b, 0, none⟩), .int .u8 c] w fun e w' => e = .returned .nilIface ∧ (Lib.BuilderAt TW TB B b (.pointer (some ⟨b, 0, none⟩)) (bs ++ [.int .u8 c]) w' ∧ Below B w w' ∧ Lib.OthersKept TB (some b) w w') := by
  obtain ⟨i0, hi, hz0, hz1, hz2⟩ := info_parts info_byte
  go_enter Tryz.func76, Tryz.ntmps76
  go_wp2_with (go_at_call 112; refine (copyCheck_w B b bs _ h).mono ?_)
  rintro e w1 ⟨rfl, h1, hb1, hk1⟩
  obtain ⟨hB, v, hbk, hown, hne⟩ := h1
  have c0 : w1.cell? ⟨b, 0, none⟩ = some (.pointer (some ⟨b, 0, none⟩)) := by rw [Lib.cell_of_heap hbk]; rfl
  have c1 : w1.cell? ⟨b, 1, none⟩ = some v := by rw [Lib.cell_of_heap hbk]; rfl
  go_wp2_with (at_builtin; refine wpList_append_own _ rfl _ _ 71 rfl B TB i0 (.int .u8 0) 1 1 Tryz.underlying71 hi hz0 hz1 hz2 rfl (by decide) _ _ _ rfl (hown.alloc _) ⟨w1.heap.size, 0, none⟩ 1 1 [.int .u8 c] rfl rfl ?c1 ?c2 ?c3 ?c4 ?c5 ?_)
  case c1 =>
    intro j u hj
    match j, hj with
    | 0, hj => simp at hj; subst hj; simp [Addr.add]
  case c2 => intro u hu; simp at hu; subst hu; rfl
  case c3 => unfold maxLen; omega
  case c4 => omega
  case c5 => have := hb1.size; simp; omega
  intro v' w2 hown' hgrow _
  have hlt : b < w1.heap.size := by
    rcases Nat.lt_or_ge b w1.heap.size with h' | h'
    · exact h'
    · simp [Array.getElem?_eq_none h'] at hbk
  have hb2 : w2.heap[b]? = some (.cells #[.pointer (some ⟨b, 0, none⟩), v] TW (0, 0)) := by
    rw [hgrow.block b (by simp; omega) (fun e => hne e.symm), Lib.alloc_old w1 _ b hlt]
    exact hbk
  have d0 : w2.cell? ⟨b, 0, none⟩ = some (.pointer (some ⟨b, 0, none⟩)) := by rw [Lib.cell_of_heap hb2]; rfl
  have d1 : w2.cell? ⟨b, 1, none⟩ = some v := by rw [Lib.cell_of_heap hb2]; rfl
  have f1 : w2.frozen? ⟨b, 1, none⟩ = false := Lib.frozen_of_heap hb2 1
  obtain ⟨g, cap, rfl⟩ : ∃ g cap, v' = .slice (some ⟨g, 0, none⟩) (bs.length + 1) cap := by
    rcases hown'.2 with ⟨_, h0⟩ | ⟨g, cap, cur, hv, _⟩
    · omega
    · exact ⟨g, cap, hv⟩
  go_wp2
  go_ret
  refine ⟨rfl, ?_, ?_, ((hk1.alloc _).grown hgrow (own_kind (hown.alloc _))).setCell ⟨b, 1, none⟩ rfl _⟩
  · exact Lib.BuilderAt.put (T := TW) (e := TB) hB hb2 (bs' := bs ++ [.int .u8 c]) (by simpa using hown') neWB
  · exact ((hb1.alloc (by have := hb1.size; omega) _).grown hgrow (by have := hb1.size; simp; omega) (fun k hk => (hown.lt k hk).1)).setCell (p := ⟨b, 1, none⟩) hB _
set_option maxHeartbeats 2000000 in
set_option maxRecDepth 100000 in
theorem wstr_w (B b : Nat) (bs : List Value) (s : ByteArray) (w : World) (h : Lib.IsBuilder TW TB B b bs w) (hlen : bs.length + s.size ≤ 140737488355328) (hBw : B ≤ w.heap.size) :
    Calls Tryz.prog 78 #[.pointer (some ⟨b, 0, none⟩), .string s] w fun e w' => e = .returned (.tuple #[.int .i64 s.size, .nilIface]) ∧ (Lib.BuilderAt TW TB B b (.pointer (some ⟨b, 0, none⟩)) (bs ++ Lib.strCells s) w' ∧ Below B w w' ∧ Lib.OthersKept TB (some b) w w') := by
  obtain ⟨i0, hi, hz0, hz1, hz2⟩ := info_parts info_byte
  go_enter Tryz.func78, Tryz.ntmps78
  go_wp2_with (go_at_call 112; refine (copyCheck_w B b bs _ h).mono ?_)
  rintro e w1 ⟨rfl, h1, hb1, hk1⟩
  obtain ⟨hB, v, hbk, hown, hne⟩ := h1
  have c0 : w1.cell? ⟨b, 0, none⟩ = some (.pointer (some ⟨b, 0, none⟩)) := by rw [Lib.cell_of_heap hbk]; rfl
  have c1 : w1.cell? ⟨b, 1, none⟩ = some v := by rw [Lib.cell_of_heap hbk]; rfl
  go_wp2_with (at_builtin; refine Lib.wpList_append_own_string _ rfl _ _ 71 9 rfl B TB i0 Tryz.underlying71 Tryz.underlying9 hi hz0 hz1 hz2 _ _ _ rfl hown s rfl ?c3 ?c4 ?c5 ?_)
  case c3 => unfold maxLen; omega
  case c4 => omega
  case c5 => have := hb1.size; omega
  intro v' w2 hown' hgrow _
  have hlt : b < w1.heap.size := by
    rcases Nat.lt_or_ge b w1.heap.size with h' | h'
    · exact h'
    · simp [Array.getElem?_eq_none h'] at hbk
  have hb2 : w2.heap[b]? = some (.cells #[.pointer (some ⟨b, 0, none⟩), v] TW (0, 0)) := by
    rw [hgrow.block b hlt (fun e => hne e.symm)]
    exact hbk
  have d0 : w2.cell? ⟨b, 0, none⟩ = some (.pointer (some ⟨b, 0, none⟩)) := by rw [Lib.cell_of_heap hb2]; rfl
  have d1 : w2.cell? ⟨b, 1, none⟩ = some v := by rw [Lib.cell_of_heap hb2]; rfl
  have f1 : w2.frozen? ⟨b, 1, none⟩ = false := Lib.frozen_of_heap hb2 1
  obtain ⟨ao, n', cap, rfl⟩ : ∃ ao n' cap, v' = .slice ao n' cap := by
    rcases hown'.2 with ⟨hv, _⟩ | ⟨g, cap, cur, hv, _⟩
    · exact ⟨_, _, _, hv⟩
    · exact ⟨_, _, _, hv⟩
  go_wp2
  go_ret2
  refine ⟨rfl, ?_, ?_, (hk1.grown hgrow (own_kind hown)).setCell ⟨b, 1, none⟩ rfl _⟩
  · exact Lib.BuilderAt.put (T := TW) (e := TB) hB hb2 (bs' := bs ++ Lib.strCells s) (by simpa [Lib.strCells_length] using hown') neWB
  · exact (hb1.grown hgrow (by have := hb1.size; omega) (fun k hk => (hown.lt k hk).1)).setCell (p := ⟨b, 1, none⟩) hB _
theorem cellsByte : Tryz.prog.cellsOf TB = 1 := by kernel_rfl
set_option maxHeartbeats 2000000 in
set_option maxRecDepth 100000 in
theorem string_w (B b : Nat) (l : List UInt8) (w : World) (h : Lib.IsBuilder TW TB B b (Lib.byteCells l) w) (h0 : l ≠ []) :
    Calls Tryz.prog 45 #[.pointer (some ⟨b, 0, none⟩)] w fun e w' => e = .returned (.string ⟨l.toArray⟩) ∧ Below B w w' := by
  obtain ⟨p, hB, v, hbk, hown, hne⟩ : ∃ p, Lib.BuilderAt TW TB B b p (Lib.byteCells l) w := by
    rcases h with h | h
    · exact ⟨_, h⟩
    · exact ⟨_, h⟩
  have hl0 : l.length ≠ 0 := by simpa using h0
  rw [Lib.byteCells_length] at hown
  obtain ⟨g, cap, cur, rfl, hbg, hg, hnc, hcm, hcs, htake⟩ : ∃ g cap cur, v = .slice (some ⟨g, 0, none⟩) l.length cap ∧ B ≤ g ∧ w.heap[g]? = some (.cells cur TB (0, 0)) ∧ l.length ≤ cap ∧ cap ≤ maxLen ∧ cur.size = cap * 1 ∧ cur.toList.take (l.length * 1) = Lib.byteCells l := by
    rcases hown.2 with ⟨_, hz⟩ | ⟨g, cap, cur, hv, r⟩
    · exact absurd hz hl0
    · exact ⟨g, cap, cur, hv, r⟩
  have c1 : w.drew.cell? ⟨b, 1, none⟩ = some (.slice (some ⟨g, 0, none⟩) l.length cap) := by
    have : w.drew.heap[b]? = some (.cells #[p, .slice (some ⟨g, 0, none⟩) l.length cap] TW (0, 0)) := hbk
    rw [Lib.cell_of_heap this]; rfl
  have hSD : (Builtin.unsafeSliceData_ #[71] 114 #[.slice (some ⟨g, 0, none⟩) l.length cap]).run Tryz.prog w.drew = .ok (.pointer (some ⟨g, 0, none⟩)) w.drew :=
    Lib.run_unsafeSliceData_row _ _ _ _ _ _ (by omega)
  have hUS : (Builtin.unsafeString_ #[114, 3] 9 #[.pointer (some ⟨g, 0, none⟩), .int .i64 l.length]).run Tryz.prog w.drew = .ok (.string ⟨l.toArray⟩) (w.drew.freeze ⟨g, 0, none⟩ l.length) := by
    refine Lib.run_unsafeString_row w.drew 114 3 9 TB Tryz.underlying114 cellsByte g cur.size (by have hg' : w.drew.heap[g]? = some (.cells cur TB (0, 0)) := hg; simp [World.shape?, hg']) l h0 (by omega) (by unfold maxLen at hcm; omega) ?_
    intro j x hx
    have := hown.cells (g := g) rfl j (.int .u8 x.toNat) (by simp [Lib.byteCells, hx])
    exact this
  go_enter Tryz.func45, Tryz.ntmps45
  go_wp2
  go_region
  all_goals (go_wp2; go_ret; exact ⟨rfl, Lib.below_freeze (Below.drew (Below.refl B w)) (p := ⟨g, 0, none⟩) hbg _⟩)
end Go.Proofs.YthiadenmljbdaaaGreatDoor
end
section
namespace Go.Proofs.YthiadenmljbdaaaGreatDoor
open Go.RowKit Go.Shelf
attribute [local go_sem] Oper.semAt_some
set_option maxHeartbeats 2000000 in
set_option maxRecDepth 100000 in
theorem wbyte_d (B b : Nat) (bs : List Value) (c : Int) (w : World) (h : Lib.IsBuilder TW TB B b bs w) (hlen : bs.length + 1 ≤ 140737488355328) (hBw : B ≤ w.heap.size) (u : FrameMode) :
    CallsD Tryz.prog 76 #[.pointer (some ⟨b, 0, none⟩), .int .u8 c] u w fun e u' w' => u' = u ∧ e = .returned .nilIface ∧ (Lib.BuilderAt TW TB B b (.pointer (some ⟨b, 0, none⟩)) (bs ++ [.int .u8 c]) w' ∧ Below B w w' ∧ Lib.OthersKept TB (some b) w w') := by
  obtain ⟨i0, hi, hz0, hz1, hz2⟩ := info_parts info_byte
  go_enter_d Tryz.func76, Tryz.ntmps76
  go_wp2_with (go_at_call 112; refine (copyCheck_w B b bs _ h).mono ?_)
  rintro e w1 ⟨rfl, h1, hb1, hk1⟩
  obtain ⟨hB, v, hbk, hown, hne⟩ := h1
  have c0 : w1.cell? ⟨b, 0, none⟩ = some (.pointer (some ⟨b, 0, none⟩)) := by rw [Lib.cell_of_heap hbk]; rfl
  have c1 : w1.cell? ⟨b, 1, none⟩ = some v := by rw [Lib.cell_of_heap hbk]; rfl
  go_wp2_with (at_builtin; refine wpList_append_own _ rfl _ _ 71 rfl B TB i0 (.int .u8 0) 1 1 Tryz.underlying71 hi hz0 hz1 hz2 rfl (by decide) _ _ _ rfl (hown.alloc _) ⟨w1.heap.size, 0, none⟩ 1 1 [.int .u8 c] rfl rfl ?c1 ?c2 ?c3 ?c4 ?c5 ?_)
  case c1 =>
    intro j u hj
    match j, hj with
    | 0, hj => simp at hj; subst hj; simp [Addr.add]
  case c2 => intro u hu; simp at hu; subst hu; rfl
  case c3 => unfold maxLen; omega
  case c4 => omega
  case c5 => have := hb1.size; simp; omega
  intro v' w2 hown' hgrow _
  have hlt : b < w1.heap.size := by
    rcases Nat.lt_or_ge b w1.heap.size with h' | h'
    · exact h'
    · simp [Array.getElem?_eq_none h'] at hbk
  have hb2 : w2.heap[b]? = some (.cells #[.pointer (some ⟨b, 0, none⟩), v] TW (0, 0)) := by
    rw [hgrow.block b (by simp; omega) (fun e => hne e.symm), Lib.alloc_old w1 _ b hlt]
    exact hbk
  have d0 : w2.cell? ⟨b, 0, none⟩ = some (.pointer (some ⟨b, 0, none⟩)) := by rw [Lib.cell_of_heap hb2]; rfl
  have d1 : w2.cell? ⟨b, 1, none⟩ = some v := by rw [Lib.cell_of_heap hb2]; rfl
  have f1 : w2.frozen? ⟨b, 1, none⟩ = false := Lib.frozen_of_heap hb2 1
  obtain ⟨g, cap, rfl⟩ : ∃ g cap, v' = .slice (some ⟨g, 0, none⟩) (bs.length + 1) cap := by
    rcases hown'.2 with ⟨_, h0⟩ | ⟨g, cap, cur, hv, _⟩
    · omega
    · exact ⟨g, cap, hv⟩
  go_wp2
  go_ret
  refine ⟨rfl, ?_, ?_, ((hk1.alloc _).grown hgrow (own_kind (hown.alloc _))).setCell ⟨b, 1, none⟩ rfl _⟩
  · exact Lib.BuilderAt.put (T := TW) (e := TB) hB hb2 (bs' := bs ++ [.int .u8 c]) (by simpa using hown') neWB
  · exact ((hb1.alloc (by have := hb1.size; omega) _).grown hgrow (by have := hb1.size; simp; omega) (fun k hk => (hown.lt k hk).1)).setCell (p := ⟨b, 1, none⟩) hB _
end Go.Proofs.YthiadenmljbdaaaGreatDoor
end
