/-
  l: the parts YOpen YRow YDepth YSize YRSize YNone YKind YName.
-/
import Derived.Test.YthiadenmljbdaaaGreatDoorB6l
import Derived.Deep.Slices
import Derived.Laws.AppendOwn
import Derived.Deep.LoopGhost
import Derived.Deep.Cut
namespace Go.Proofs.YthiadenmljbdaaaGreatDoor
section
open Go.RowKit
open Go.ChangeShapes Go.ChangeMaps Go.WideShapes Go.ChangeAt Go.Deep
theorem cellsStr : Tryz.prog.cellsOf 9 = 1 := by kernel_rfl
theorem cellsTree : Tryz.prog.cellsOf 28 = 6 := by kernel_rfl
theorem cellsInt2 : Tryz.prog.cellsOf 25 = 2 := by kernel_rfl
theorem cellsNames : Tryz.prog.cellsOf 22 = 1 := by kernel_rfl
theorem cellsKids : Tryz.prog.cellsOf 26 = 1 := by kernel_rfl
theorem cellsMag : Tryz.prog.cellsOf 23 = 1 := by kernel_rfl
theorem cellsI : Tryz.prog.cellsOf 3 = 1 := by kernel_rfl
theorem cellsB : Tryz.prog.cellsOf 4 = 1 := by kernel_rfl
section
variable {H : Type} {enc : TypeId × Value → H} {W : World}
theorem lits_bulk : ∀ (l : List Int), (lits (H := H) .u32 l).length ≤ Rows.uptoBulkAll (lits (H := H) .u32 l) := by
 intro l
 induction l with
 | nil => simp [lits, Rows.uptoBulkAll]
 | cons x l ih => simp only [lits, List.map_cons, List.length_cons, Rows.uptoBulkAll, Rows.uptoBulk] at ih ⊢; omega
instance instT : Inhabited T := ⟨t0⟩
abbrev RA (W : World) : Nat → Prop := fun b => b < W.heap.size
theorem lt_of_cell {p : Addr} {v : Value} (h : W.cell? p = some v) : p.block < W.heap.size := World.block_lt_of_cell? W p h
set_option maxRecDepth 100000 in
theorem open_row {fuel : Nat} {v : Value} {y : DataW H × List MemPlace} (hf : DataW.trod enc Tryz.prog W 0 (fun _ => true) true fuel 23 [v] = some y) :
    ∃ A c l, v = .slice A l.length c ∧ SlR W (RA W) A c l ∧ l.length + 1 ≤ Rows.uptoBulk y.1 := by
  rcases open_ints Tryz.underlying23 Tryz.underlying69 cellsU32 hf with ⟨hcs, hx⟩ | ⟨a, len, cap, zs, hcs, _, hl, hm, hz, hx, hcell, hwz⟩
  · simp at hcs
    subst hcs
    subst hx
    exact ⟨none, 0, [], rfl, ⟨Sl.nil _ _ _, fun h => absurd h (by simp)⟩, by simp [Rows.uptoBulk]⟩
  ·
   simp at hcs
   subst hcs
   subst hx
   simp only [if_true] at hz
   have hb : ∀ k, k < zs.length → 0 ≤ zs.getD k 0 ∧ zs.getD k 0 < 4294967296 := fun k hk => by
    have e : zs.getD k 0 = zs[k] := by simp [List.getD, hk]
    rw [e]
    have := bounds_u32 (hwz zs[k] (List.getElem_mem hk))
    omega
   have hlen : (limbs (zs.take len)).length = len := by simp [limbs]; omega
   have hsl : Sl W (some a) len cap (limbs (zs.take len)) := by
    refine ⟨hlen, hl, ?_, ?_⟩
    · refine N.Lim.of_dg fun k hk => ?_
      rw [hlen] at hk
      have e : (zs.take len).getD k 0 = zs.getD k 0 := by simp [List.getD, hk]
      have h1 := hb k (by omega)
      have h2 := limbs_dg (zs.take len) k (by simp; omega) (by rw [e]; exact h1.1)
      rw [e] at h2; omega
    ·
     intro hn
     obtain ⟨b, off, spot⟩ := a
     have hspot : spot = none := by simpa [Addr.add] using World.cell?_spot (hcell 0 (by omega))
     subst hspot
     refine ⟨b, off, rfl, fun k hk => ?_⟩
     have e : (zs.take len).getD k 0 = zs.getD k 0 := by simp [List.getD, hk]
     have h1 := hb k (by omega)
     have h2 := limbs_dg (zs.take len) k (by simp; omega) (by rw [e]; exact h1.1)
     have h3 := hcell k (by omega)
     rw [Addr.add_lit] at h3
     rw [h3, h2, e]
   refine ⟨some a, cap, limbs (zs.take len), by rw [hlen], ⟨by rw [hlen]; exact hsl, fun hn ad e => ?_⟩, ?_⟩
   · injection e with e
     subst e
     obtain ⟨b, o, e, hc⟩ := hsl.cells (by omega)
     injection e with e
     subst e
     exact lt_of_cell (hc 0 (by omega))
   · rw [hlen]
     have h2 := lits_bulk (H := H) (zs.take len)
     simp only [lits, List.length_map, List.length_take] at h2
     simp only [Rows.uptoBulk, lits]
     omega
theorem bulk_pos : ∀ (d : DataW H), 1 ≤ Rows.uptoBulk d := by
 intro d
 cases d <;> try (simp only [Rows.uptoBulk]; omega)
 rename_i l
 cases l <;> simp only [Rows.uptoBulk] <;> omega
theorem bulk_map (f : Nat → DataW H) (g : Nat → Nat) : ∀ (n _k : Nat), (∀ i, i < n → g i ≤ Rows.uptoBulk (f i)) → ((List.range n).map g).sum ≤ Rows.uptoBulkAll ((List.range n).map f) := by
 intro n _ h
 have key : ∀ (l : List Nat), (∀ i ∈ l, g i ≤ Rows.uptoBulk (f i)) → (l.map g).sum ≤ Rows.uptoBulkAll (l.map f) := by
  intro l
  induction l with
  | nil => intro _; simp [Rows.uptoBulkAll]
  | cons x l ih =>
   intro hl
   have h1 := hl x List.mem_cons_self
   have h2 := ih (fun i hi => hl i (List.mem_cons_of_mem _ hi))
   simp only [List.map_cons, List.sum_cons, Rows.uptoBulkAll]
   omega
 exact key _ (fun i hi => h i (List.mem_range.1 hi))
theorem bulk_elem (f : Nat → DataW H) (n i : Nat) (hi : i < n) : Rows.uptoBulk (f i) ≤ Rows.uptoBulkAll ((List.range n).map f) := by
 have key : ∀ (l : List Nat), i ∈ l → Rows.uptoBulk (f i) ≤ Rows.uptoBulkAll (l.map f) := by
  intro l
  induction l with
  | nil => intro h; cases h
  | cons x l ih =>
   intro hl
   simp only [List.map_cons, Rows.uptoBulkAll]
   rcases List.mem_cons.1 hl with rfl | hl
   · omega
   · have := ih hl; omega
 exact key _ (List.mem_range.2 hi)
set_option maxRecDepth 100000 in
theorem open_strs {fuel : Nat} {v : Value} {y : DataW H × List MemPlace} (hf : DataW.trod enc Tryz.prog W 0 (fun _ => true) true fuel 22 [v] = some y) :
    ∃ A c ns, v = .slice A ns.length c ∧ StrL W (RA W) A c ns ∧ sbulk ns + 1 ≤ Rows.uptoBulk y.1 := by
  rcases open_slice1 Tryz.underlying22 cellsStr hf with ⟨hcs, hx⟩ | ⟨a, len, cap, m, n, V, D, Pl, hcs, _, hl, hm, hmm, hx, hall⟩
  · simp at hcs
    subst hcs
    subst hx
    exact ⟨none, 0, [], rfl, ⟨Nat.le_refl _, fun h => absurd h (by simp)⟩, by simp [sbulk, Rows.uptoBulk]⟩
  ·
   simp at hcs
   subst hcs
   subst hx
   simp only [if_true] at hmm
   subst hmm
   obtain ⟨S, hS⟩ := choose_lt (α := ByteArray) (n := len) (p := fun i s => V i = .string s ∧ s.size + 1 ≤ Rows.uptoBulk (D i)) (fun i hi => by
    obtain ⟨_, h2⟩ := hall i (by omega)
    obtain ⟨s, hs, hd, _⟩ := DataW.trod_string Tryz.underlying9 h2
    refine ⟨s, by simpa using hs, ?_⟩
    simp only [Prod.mk.injEq] at hd
    rw [hd.1]
    simp only [Rows.uptoBulk, Array.length_toList]
    exact Nat.le_refl _)
   have hlen : ((List.range len).map S).length = len := by simp
   refine ⟨some a, m, (List.range len).map S, by rw [hlen], ⟨by rw [hlen]; exact hl, fun hn => ?_⟩, ?_⟩
   ·
    rw [hlen] at hn
    obtain ⟨b, off, spot⟩ := a
    have hspot : spot = none := by simpa [Addr.add] using World.cell?_spot (hall 0 (by omega)).1
    subst hspot
    have h0 := (hall 0 (by omega)).1
    rw [Addr.add_lit] at h0
    refine ⟨b, off, rfl, lt_of_cell h0, fun i hi => ?_⟩
    rw [hlen] at hi
    have h1 := (hall i (by omega)).1
    rw [Addr.add_lit] at h1
    rw [h1, (hS i hi).1]
    simp [List.getD, hi]
   · have := bulk_map D (fun i => (S i).size + 1) len 0 (fun i hi => (hS i hi).2)
     simp only [sbulk, List.map_map, Rows.uptoBulk]
     simp only [Function.comp_def]
     omega
theorem T.Ins.of {w : World} {R : Nat → Prop} {b : Nat} : ∀ (ks : List T) (o : Nat), (∀ i, i < ks.length → ∃ v0 v1 v2 v3 v4 v5, six w b (o + i * 6) v0 v1 v2 v3 v4 v5 ∧ T.In w R (ks.getD i t0) (.agg #[v0, v1, v2, v3, v4, v5])) → T.Ins w R b o ks
 | [], _, _ => by simp only [T.Ins]
 | t :: r, o, h => by
  simp only [T.Ins]
  refine ⟨by simpa using h 0 (by simp), T.Ins.of r (o + 6) fun i hi => ?_⟩
  have := h (i + 1) (by simpa using hi)
  rw [show o + (i + 1) * 6 = o + 6 + i * 6 by omega] at this
  simpa using this
theorem bulks_map (f : Nat → T) : ∀ (l : List Nat), T.bulks (l.map f) = (l.map (fun i => (f i).bulk)).sum
 | [] => rfl
 | x :: l => by simp [T.bulks, bulks_map f l]
set_option maxRecDepth 100000 in
set_option maxHeartbeats 800000 in
theorem open_tree : ∀ (N fuel : Nat) (cs : List Value) (y : DataW H × List MemPlace), Rows.uptoBulk y.1 ≤ N → DataW.trod enc Tryz.prog W 0 (fun _ => true) true fuel 28 cs = some y →
    ∃ t v0 v1 v2 v3 v4 v5, cs = [v0, v1, v2, v3, v4, v5] ∧ T.In W (RA W) t (.agg #[v0, v1, v2, v3, v4, v5]) ∧ t.bulk ≤ Rows.uptoBulk y.1
  | 0, fuel, cs, y, hN, h => by have := bulk_pos y.1; omega
  | N + 1, fuel, cs, y, hN, h => by
   have ih := open_tree N
   obtain ⟨xs, k, hk, hxy, hlen, hxl, hf⟩ := DataW.trod_struct Tryz.underlying28 h
   rw [cellsTree] at hlen
   match xs, hxl, cs, hlen with
   | [y0, y1, y2, y3, y4], _, [v0, v1, v2, v3, v4, v5], _ =>
    have g0 := hf 0 _ rfl
    have g1 := hf 1 _ rfl
    have g2 := hf 2 _ rfl
    have g3 := hf 3 _ rfl
    have g4 := hf 4 _ rfl
    simp [cellsI, cellsStr, cellsNames, cellsInt2, cellsKids] at g0 g1 g2 g3 g4
    obtain ⟨kz, e0, r0, _⟩ := DataW.trod_int Tryz.underlying3 g0
    obtain ⟨nm, e1, r1, _⟩ := DataW.trod_string Tryz.underlying9 g1
    obtain ⟨A1, c1, ns, rfl, hns, hb2⟩ := open_strs g2
    obtain ⟨zs, k3, hk3, hxy3, hlen3, hxl3, hf3⟩ := DataW.trod_struct Tryz.underlying25 g3
    simp only [List.cons.injEq, and_true] at e0 e1
    subst e0; subst e1
    match zs, hxl3 with
    | [z0, z1], _ =>
     have q0 := hf3 0 _ rfl
     have q1 := hf3 1 _ rfl
     simp [cellsB, cellsMag] at q0 q1
     obtain ⟨ng, e3, r3⟩ := DataW.trod_bool Tryz.underlying4 q0
     obtain ⟨A2, c2, mg, rfl, hmg, hb4⟩ := open_row q1
     simp only [List.cons.injEq, and_true] at e3
     subst e3
     have hsz : nm.size = nm.data.size := rfl
     have hbulk : nm.size + sbulk ns + mg.length + Rows.uptoBulk y4.1 + 1 ≤ Rows.uptoBulk y.1 := by
      rw [hxy]
      simp only [List.map_cons, List.map_nil, Rows.uptoBulk, Rows.uptoBulkAll]
      rw [hxy3, r0, r1]
      simp only [List.map_cons, List.map_nil, Rows.uptoBulk, Rows.uptoBulkAll, Array.length_toList]
      rw [r3]
      simp only [Rows.uptoBulk]
      omega
     obtain ⟨A3, c3, ks, rfl, hc3, hks, hb5⟩ : ∃ A3 c3 ks, v5 = .slice A3 ks.length c3 ∧ ks.length ≤ c3 ∧ (0 < ks.length → ∃ b o, A3 = some ⟨b, o, none⟩ ∧ RA W b ∧ T.Ins W (RA W) b o ks) ∧ T.bulks ks + 1 ≤ Rows.uptoBulk y4.1 := by
      rcases open_slice Tryz.underlying26 g4 with ⟨hcs, hx⟩ | ⟨a, len, cap, m, n, D, Pl, hcs, _, hl, hm, hmm, hx, hall⟩
      · simp only [List.cons.injEq, and_true] at hcs
        subst hcs
        subst hx
        exact ⟨none, 0, [], rfl, Nat.le_refl _, fun h => absurd h (by simp), by simp [T.bulks, Rows.uptoBulk]⟩
      ·
       simp only [List.cons.injEq, and_true] at hcs
       subst hcs
       subst hx
       simp only [if_true] at hmm
       subst hmm
       have hDN : ∀ i, i < len → Rows.uptoBulk (D i) ≤ N := fun i hi => by
        have h1 := bulk_elem D len i hi
        simp only [Rows.uptoBulk] at hbulk
        omega
       obtain ⟨S, hS⟩ := choose_lt (α := T) (n := len) (p := fun i t => (∃ v0 v1 v2 v3 v4 v5, W.cells? 0 (a.add (i * 6)) 6 = some [v0, v1, v2, v3, v4, v5] ∧ T.In W (RA W) t (.agg #[v0, v1, v2, v3, v4, v5])) ∧ t.bulk ≤ Rows.uptoBulk (D i)) (fun i hi => by
        obtain ⟨cs', h1, h2⟩ := hall i (by omega)
        rw [cellsTree] at h1
        obtain ⟨t, v0, v1, v2, v3, v4, v5, rfl, hin, hb⟩ := ih n cs' (D i, Pl i) (hDN i hi) h2
        exact ⟨t, ⟨v0, v1, v2, v3, v4, v5, h1, hin⟩, hb⟩)
       have hlen' : ((List.range len).map S).length = len := by simp
       refine ⟨some a, m, (List.range len).map S, by rw [hlen'], by rw [hlen']; exact hl, fun hn => ?_, ?_⟩
       ·
        rw [hlen'] at hn
        obtain ⟨⟨w0, w1, w2, w3, w4, w5, hc0, _⟩, _⟩ := hS 0 hn
        obtain ⟨_, _, hcell⟩ := World.cells?_some hc0
        have h00 := hcell 0 (by omega)
        obtain ⟨b, off, spot⟩ := a
        have hspot : spot = none := by simpa [Addr.add] using World.cell?_spot (show W.cell? _ = some w0 from h00)
        subst hspot
        refine ⟨b, off, rfl, ?_, T.Ins.of _ _ fun i hi => ?_⟩
        · have := lt_of_cell (show W.cell? _ = some w0 from h00)
          simpa [Addr.add_lit] using this
        ·
         rw [hlen'] at hi
         obtain ⟨⟨w0, w1, w2, w3, w4, w5, hci, hin⟩, _⟩ := hS i hi
         obtain ⟨_, _, hce⟩ := World.cells?_some hci
         have j0 := hce 0 (by omega)
         have j1 := hce 1 (by omega)
         have j2 := hce 2 (by omega)
         have j3 := hce 3 (by omega)
         have j4 := hce 4 (by omega)
         have j5 := hce 5 (by omega)
         rw [Addr.add_lit, Addr.add_lit] at j0 j1 j2 j3 j4 j5
         have e : ((List.range len).map S).getD i t0 = S i := by simp [List.getD, hi]
         rw [e]
         exact ⟨w0, w1, w2, w3, w4, w5, ⟨j0, j1, j2, j3, j4, j5⟩, hin⟩
       · have := bulk_map D (fun i => (S i).bulk) len 0 (fun i hi => (hS i hi).2)
         rw [bulks_map]
         simp only [Rows.uptoBulk]
         omega
     refine ⟨.node kz nm ns ng mg ks, _, _, _, _, _, _, rfl, ?_, ?_⟩
     · simp only [T.In]
       exact ⟨A1, c1, A2, c2, A3, c3, rfl, hns, hmg, hc3, hks⟩
     · simp only [T.bulk]
       omega
set_option maxRecDepth 100000 in
set_option maxHeartbeats 800000 in
theorem open_targ {base : Nat} {v : Value} {d : DataW H} {p : List MemPlace} (hval : Value.okWide Tryz.prog W .any base 28 v) (h : DataW.Trod enc Tryz.prog W 0 (fun _ => true) true 28 v d p) (hlt : ∀ x ∈ p, x.block < W.heap.size) :
    (∃ t, T.In W (RA W) t v ∧ t.bulk ≤ Rows.uptoBulk d) ∧
      ∀ W', Below W.heap.size W W' → DataW.Trod enc Tryz.prog W' 0 (fun b => decide (b < W.heap.size)) true 28 v d p := by
  refine ⟨?_, fun W' hb => Below.trod laidOut (by kernel_rfl) (of_decide_eq_true (by kernel_rfl)) h hb hlt⟩
  obtain ⟨cs, rfl, hsz⟩ := okWide_struct Tryz.underlying28 hval
  rw [cellsTree] at hsz
  obtain ⟨fuel, hf⟩ := h
  obtain ⟨t, v0, v1, v2, v3, v4, v5, hcs, hin, hb⟩ := open_tree (Rows.uptoBulk d) fuel _ (d, p) (Nat.le_refl _) hf
  refine ⟨t, ?_, hb⟩
  have e : cs = #[v0, v1, v2, v3, v4, v5] := by
   simp [Value.cells] at hcs
   exact Array.toList_inj.1 (by simpa using hcs)
  rw [e]
  exact hin
end
end
section
open Go.RowKit
theorem info_tree : (Tryz.prog.info? 28).map (fun i => (i.zero, i.size, i.bytes)) = some (some (.agg #[.int .i64 0, .string ⟨#[]⟩, .slice none 0 0, .bool false, .slice none 0 0, .slice none 0 0]), 6, 104) := by kernel_rfl
abbrev Kc := Value × Value × Value × Value × Value × Value
def kcl (r : Kc) : List Value := [r.1, r.2.1, r.2.2.1, r.2.2.2.1, r.2.2.2.2.1, r.2.2.2.2.2]
def kc0 : Kc := (.int .i64 0, .string ⟨#[]⟩, .slice none 0 0, .bool false, .slice none 0 0, .slice none 0 0)
def kcs (rs : List Kc) : List Value := rs.flatMap kcl
def kz6 : Array Value := #[.int .i64 0, .string ⟨#[]⟩, .slice none 0 0, .bool false, .slice none 0 0, .slice none 0 0]
def kzs (k : Nat) : List Value := (Builtin.zeroCells kz6 k).toList
theorem kcs_length (rs : List Kc) : (kcs rs).length = rs.length * 6 := by
 induction rs with
 | nil => rfl
 | cons r rs ih => simp only [kcs, List.flatMap_cons, List.length_append, kcl, List.length_cons, List.length_nil] at ih ⊢; omega
theorem kcs_append (a b : List Kc) : kcs (a ++ b) = kcs a ++ kcs b := by simp [kcs]
theorem kcs_get (rs : List Kc) (i j : Nat) (h : i < rs.length) (hj : j < 6) : (kcs rs)[i * 6 + j]? = (kcl (rs.getD i kc0))[j]? := by
 induction rs generalizing i with
 | nil => simp at h
 | cons r rs ih =>
  have e : kcs (r :: rs) = kcl r ++ kcs rs := rfl
  have hl : (kcl r).length = 6 := rfl
  cases i with
  | zero => rw [e, List.getElem?_append_left (by rw [hl]; omega)]; simp [List.getD]
  | succ i =>
   rw [e, List.getElem?_append_right (by rw [hl]; omega), hl, show (i + 1) * 6 + j - 6 = i * 6 + j by omega, ih i (by simpa using h)]
   simp [List.getD]
theorem kzs_length (k : Nat) : (kzs k).length = k * 6 := by simp [kzs, Builtin.zeroCells, kz6]
theorem kzs_get (k j : Nat) (h : j < k * 6) : (kzs k)[j]? = some (kz6[j % 6]!) := by
 simp [kzs, Builtin.zeroCells, kz6, h]
theorem kzs_drop (k : Nat) : (kzs (k + 1)).drop 6 = kzs k := by
 apply List.ext_getElem?
 intro j
 rw [List.getElem?_drop]
 rcases Nat.lt_or_ge j (k * 6) with h | h
 · rw [kzs_get _ _ (by omega), kzs_get _ _ h, show (6 + j) % 6 = j % 6 by omega]
 · rw [List.getElem?_eq_none (by rw [kzs_length]; omega), List.getElem?_eq_none (by rw [kzs_length]; omega)]
def OutK (w : World) (base : Nat) (v : Value) (rs : List Kc) : Prop := (v = .slice none 0 0 ∧ rs = []) ∨
 ∃ g cap cur, v = .slice (some ⟨g, 0, none⟩) rs.length cap ∧ base ≤ g ∧ w.heap[g]? = some (.cells cur 28 (0, 0)) ∧ rs.length ≤ cap ∧ cap ≤ maxLen ∧ cur.toList = kcs rs ++ kzs (cap - rs.length)
section
variable {w w' : World} {base : Nat} {v : Value} {rs : List Kc}
theorem OutK.nil (w : World) (base : Nat) : OutK w base (.slice none 0 0) [] := .inl ⟨rfl, rfl⟩
theorem OutK.kept (h : OutK w base v rs) {row : Option Nat} (hg : w.grownBy w' row) (hne : v.ownBlock = none ∨ v.ownBlock ≠ row) : OutK w' base v rs := by
 rcases h with h | ⟨g, cap, cur, rfl, h1, h2, h3⟩
 · exact .inl h
 · refine .inr ⟨g, cap, cur, rfl, h1, (hg.block g (Array.getElem?_eq_some_iff.1 h2).1 ?_).trans h2, h3⟩
   rcases hne with hne | hne
   · cases hne
   · exact hne
theorem OutK.below (h : OutK w base v rs) (hb : Below w.heap.size w w') : OutK w' base v rs := h.kept (gb_of_below hb none) (by cases v.ownBlock <;> simp)
theorem OutK.le (h : OutK w base v rs) {base' : Nat} (hb : base' ≤ base) : OutK w base' v rs := by
 rcases h with h | ⟨g, cap, cur, rfl, h1, h2⟩
 · exact .inl h
 · exact .inr ⟨g, cap, cur, rfl, Nat.le_trans hb h1, h2⟩
theorem OutK.size {g cap : Nat} {cur : Array Value} (hc : cur.toList = kcs rs ++ kzs (cap - rs.length)) (hle : rs.length ≤ cap) (_ : w.heap[g]? = some (.cells cur 28 (0, 0))) : cur.size = cap * 6 := by
 have := congrArg List.length hc
 rw [List.length_append, kcs_length, kzs_length, Array.length_toList] at this
 omega
theorem OutK.cells (h : OutK w base v rs) (hn : 0 < rs.length) : ∃ g cap, v = .slice (some ⟨g, 0, none⟩) rs.length cap ∧ ∀ i, i < rs.length → ∀ j, j < 6 → w.cell? ⟨g, i * 6 + j, none⟩ = (kcl (rs.getD i kc0))[j]? := by
 rcases h with ⟨_, h⟩ | ⟨g, cap, cur, rfl, h1, h2, h3, h4, h5⟩
 · rw [h] at hn; exact absurd hn (by simp)
 · refine ⟨g, cap, rfl, fun i hi j hj => ?_⟩
   rw [cell_of_row _ _ _ _ _ _ h2, ← Array.getElem?_toList, h5, List.getElem?_append_left (by rw [kcs_length]; omega), kcs_get _ _ _ hi hj]
theorem OutK.slice (h : OutK w base v rs) : ∃ A c, v = .slice A rs.length c := by
 rcases h with ⟨rfl, rfl⟩ | ⟨g, cap, cur, rfl, _⟩
 · exact ⟨none, 0, rfl⟩
 · exact ⟨_, _, rfl⟩
end
theorem wpList_append_kid {P : Program} (w : World) {ops : Array Oper} {rest : List Oper} {o : Oper} {a : Act} {Q : Exit → Act → World → Prop} (hgd : o.guard = none) (s x : Operand) (t : TypeId)
    (ho : o.op = .call { callee := .builtin .append, args := #[s, x], argTypes := #[t, t] })
    (base : Nat) (i : TypeInfo) (ht : P.underlying t = some (.slice 28)) (hi : P.info? 28 = some i) (hz : i.zero = some (.agg #[.int .i64 0, .string ⟨#[]⟩, .slice none 0 0, .bool false, .slice none 0 0, .slice none 0 0])) (hsize : i.size = 6) (hby : i.bytes = 104)
    (v : Value) (rs : List Kc) (hs : a.eval s = v) (hown : OutK w base v rs)
    (g c : Nat) (r : Kc) (hx : a.eval x = .slice (some ⟨g, 0, none⟩) 1 c) (hc : ∀ j u, (kcl r)[j]? = some u → w.cell? ⟨g, j, none⟩ = some u) (hone : ∀ u ∈ kcl r, u.oneCell' = true)
    (hb : rs.length < 1048576) (hbase : base ≤ w.heap.size)
    (h : ∀ g' cap w', OutK w' base (.slice (some ⟨g', 0, none⟩) (rs.length + 1) cap) (rs ++ [r]) → w.grownBy w' v.ownBlock → (v.ownBlock = some g' ∨ w.heap.size ≤ g') → wpList P ops Q rest (a.put o.dst (.slice (some ⟨g', 0, none⟩) (rs.length + 1) cap)) w') : wpList P ops Q (o :: rest) a w := by
  refine wpList_plain hgd fun K hK => ?_
  have hnews : ∀ j u, (kcl r)[j]? = some u → w.cell? ((⟨g, 0, none⟩ : Addr).add j) = some u := fun j u hu => by rw [Addr.add_lit, Nat.zero_add]; exact hc j u hu
  have key : ∃ g' cap w', (Builtin.append_ #[t, t] o.type #[v, .slice (some ⟨g, 0, none⟩) 1 c]).run P w = .ok (.slice (some ⟨g', 0, none⟩) (rs.length + 1) cap) w' ∧ OutK w' base (.slice (some ⟨g', 0, none⟩) (rs.length + 1) cap) (rs ++ [r]) ∧ w.grownBy w' v.ownBlock ∧ (v.ownBlock = some g' ∨ w.heap.size ≤ g') := by
   have hzc : ∀ k, (Builtin.zeroCells (Value.cells (.agg #[.int .i64 0, .string ⟨#[]⟩, .slice none 0 0, .bool false, .slice none 0 0, .slice none 0 0])) k).toList = kzs k := fun k => rfl
   rcases hown with ⟨rfl, rfl⟩ | ⟨g0, cap, cur, rfl, a1, a2, a3, a4, a5⟩
   · have hrn := run_append_nil (P := P) (w := w) t o.type 28 i _ ht hi hz ⟨g, 0, none⟩ 1 c (kcl r) (by rw [hsize]; rfl) hnews (by omega) (by omega) (by rw [hby]; omega)
     refine ⟨_, _, _, hrn, .inr ⟨_, _, _, rfl, hbase, heap_alloc_new w.drew _, grownCap_ge w 1 0 _, grownCap_le_maxLen w 1 0 _ (by unfold maxLen; omega), ?_⟩, ⟨rfl, rfl, rfl, by simp, fun k hk _ => heap_alloc_old w.drew _ hk⟩, .inr (Nat.le_refl _)⟩
     rw [Array.toList_append, hzc]
     simp [kcs]
   ·
    by_cases hroom : rs.length + 1 ≤ cap
    · have hcs := OutK.size (w := w) a5 a3 a2
      have hrn := run_append_room (P := P) w t o.type 28 i ht hi g0 rs.length cap cur a2 ⟨g, 0, none⟩ 1 c (kcl r) (by rw [hsize]; rfl) hnews hone hroom (by rw [hsize, hcs, show (kcl r).length = 6 from rfl]; omega)
      refine ⟨_, _, _, hrn, .inr ⟨g0, cap, _, by rw [List.length_append]; rfl, a1, setRow_heap _ _ _ _ _ _ a2, by rw [List.length_append]; exact hroom, a4, ?_⟩, ⟨rfl, rfl, rfl, by simp, fun k _ hk => setRow_other w g0 k _ (fun e => hk (by simp [Value.ownBlock, e]))⟩, .inl rfl⟩
      rw [List.toList_toArray, a5, hsize, show (kcl r).length = 6 from rfl, List.take_append_of_le_length (by rw [kcs_length]; omega), List.take_of_length_le (by rw [kcs_length]; omega), List.drop_append, kcs_append]
      rw [List.drop_of_length_le (by rw [kcs_length]; omega), kcs_length, show rs.length * 6 + 6 - rs.length * 6 = 6 by omega, List.nil_append]
      obtain ⟨k, hk⟩ : ∃ k, cap - rs.length = k + 1 := ⟨cap - rs.length - 1, by omega⟩
      rw [hk, kzs_drop, List.length_append, show cap - (rs.length + [r].length) = k by simp; omega]
      simp [kcs]
    · have hcl : ∀ j u, (kcs rs)[j]? = some u → w.cell? ((⟨g0, 0, none⟩ : Addr).add j) = some u := fun j u hu => by
       have hj := (List.getElem?_eq_some_iff.1 hu).1
       rw [Addr.add_lit, Nat.zero_add, cell_of_row _ _ _ _ _ _ a2, ← Array.getElem?_toList, a5, List.getElem?_append_left hj, hu]
      have hrn := run_append_grow (P := P) (w := w) t o.type 28 i _ ht hi hz ⟨g0, 0, none⟩ rs.length cap (kcs rs) (by rw [hsize, kcs_length]) hcl ⟨g, 0, none⟩ 1 c (kcl r) (by rw [hsize]; rfl) hnews (by omega) (by omega) (by rw [hby]; exact growslice_fits (by omega) (by omega))
      refine ⟨_, _, _, hrn, .inr ⟨_, _, _, by rw [List.length_append]; rfl, hbase, heap_alloc_new w.drew _, by rw [List.length_append]; exact grownCap_ge w (rs.length + 1) cap _, grownCap_le_maxLen w (rs.length + 1) cap _ (by unfold maxLen; omega), ?_⟩, ⟨rfl, rfl, rfl, by simp, fun k hk _ => heap_alloc_old w.drew _ hk⟩, .inr (Nat.le_refl _)⟩
      rw [Array.toList_append, Array.toList_append, hzc, kcs_append, List.length_append]
      simp [kcs]
  obtain ⟨g', cap', w', hrun, k1, k2, k3⟩ := key
  unfold Oper.wp execOp
  simp only [ho, resolve, invoke, builtin, Sem.run_bind, Sem.run_pure, Result.andThen_ok, List.map_toArray, List.map_cons, List.map_nil, hs, hx, hrun]
  exact hK _ _ (h g' cap' w' k1 k2 k3)
end
section
open Go.RowKit
mutual
def T.depth : T → Nat
 | .node _ _ _ _ _ ks => T.depths ks + 1
def T.depths : List T → Nat
 | [] => 0
 | t :: r => max t.depth (T.depths r)
end
theorem T.depth_eq (t : T) : t.depth = T.depths t.ks + 1 := by cases t; simp [T.depth, T.ks]
theorem T.depths_snoc : ∀ (l : List T) (t : T), T.depths (l ++ [t]) = max (T.depths l) t.depth
 | [], t => by simp [T.depths]
 | u :: r, t => by simp [T.depths, T.depths_snoc r t, Nat.max_assoc]
mutual
theorem T.depth_le : ∀ (t : T), t.depth ≤ t.bulk
 | .node _ _ _ _ _ ks => by have := T.depths_le ks; simp only [T.depth, T.bulk]; omega
theorem T.depths_le : ∀ (l : List T), T.depths l ≤ T.bulks l
 | [] => by simp [T.depths]
 | t :: r => by have := T.depth_le t; have := T.depths_le r; simp only [T.depths, T.bulks]; omega
end
set_option maxRecDepth 100000 in
set_option maxHeartbeats 1600000 in
theorem depth_t : ∀ (N : Nat) (t : T) (w : World) (R : Nat → Prop) (v : Value), t.bulk ≤ N → N ≤ 1048576 → T.In w R t v →
    Calls Tryz.prog 40 #[v] w fun e w' => e = .returned (.int .i64 (t.depth : Nat)) ∧ Below w.heap.size w w'
  | 0, t, _, _, _, hN, _, _ => by have := T.bulk_pos t; omega
  | N + 1, t, w, R, v, hN, hN2, h => by
   have ih := depth_t N
   obtain ⟨A1, c1, A2, c2, A3, c3, rfl, _, _, hc3, hkids⟩ := h.open
   obtain ⟨n, hn⟩ : ∃ n, t.ks.length = n := ⟨_, rfl⟩
   have hlen := (T.len_le hN).2.2.2.2
   rw [hn] at hkids hc3 hlen ⊢
   have HN := Lib.hid hn
   have HK := Lib.hid hkids
   have HB := Lib.hid hN
   clear hn hkids hN h
   go_enter Tryz.func40, Tryz.ntmps40
   go_wp2_with fail
   go_loopg [3, 9] (n + 1) (fun gk v3 v9 wr => ∃ i : Nat, gk + i = n + 1 ∧ i ≤ n ∧ v9 = .int .i64 (i : Nat) ∧ v3 = .int .i64 (T.depths (t.ks.take i) : Nat) ∧ Below w.heap.size w wr)
   case atStart => exact ⟨0, by omega, Nat.zero_le _, rfl, rfl, below_alloc1 _ _⟩
   case round =>
    obtain ⟨i, hi, hin, rfl, rfl, hbw⟩ := hrel
    by_cases hlt : i < n
    ·
     obtain ⟨b, o, rfl, hk⟩ := HK.out (by omega)
     have hkd := hk i hlt
     obtain ⟨u, hu⟩ : ∃ u, t.ks.getD i t0 = u := ⟨_, rfl⟩
     rw [hu] at hkd
     have hub : u.bulk ≤ N := by rw [← hu]; exact T.kid_bulk HB.out (by rw [HN.out]; exact hlt)
     have hud := T.depth_le u
     have HU := Lib.hid hu
     clear hk hu
     obtain ⟨B1, d1, B2, d2, B3, d3, h6, hin2⟩ := hkd.below hbw
     have hal := below_alloc1 wr (.cells #[.int .i64 u.k, .string u.nm, .slice B1 u.ns.length d1, .bool u.ng, .slice B2 u.mg.length d2, .slice B3 u.ks.length d3] 28)
     have HI := Lib.hid (hin2.below hal)
     have hbw2 := below_on hbw hal
     obtain ⟨e0, e1, e2, e3, e4, e5⟩ := h6
     have hi0 : (0 : Int) ≤ i := by omega
     have hi1 : (i : Int) < n := by omega
     have hnext : T.depths (t.ks.take (i + 1)) = max (T.depths (t.ks.take i)) u.depth := by rw [take_snoc _ t0 _ (by rw [HN.out]; exact hlt), T.depths_snoc, HU.out]
     have HX := Lib.hid hnext
     clear hin2 hal hnext
     go_wp2_with (go_at_call 40; refine (ih u _ R _ hub (by omega) HI.out).mono ?_; rintro e w2 ⟨rfl, hb2⟩; replace hbw2 := below_on hbw2 hb2)
     go_roundg (n - i)
     case measure => omega
     case rel => exact ⟨i + 1, by omega, by omega, by go_num, by rw [HX.out]; go_num, hbw2⟩
    ·
     obtain rfl : i = n := by omega
     have htk : t.ks.take i = t.ks := by rw [← HN.out, List.take_length]
     rw [htk]
     have hdt := T.depth_le t
     rw [T.depth_eq] at hdt
     have hdd : T.depths t.ks ≤ 1048576 := by have := HB.out; omega
     clear htk
     go_wp2_with fail
     go_ret
     exact ⟨by rw [T.depth_eq]; go_num, hbw⟩
end
section
open Go.RowKit
mutual
def T.size : T → Nat
 | .node _ _ _ _ _ ks => T.sizes ks + 1
def T.sizes : List T → Nat
 | [] => 0
 | t :: r => t.size + T.sizes r
end
theorem T.size_eq (t : T) : t.size = T.sizes t.ks + 1 := by cases t; simp [T.size, T.ks]
theorem T.sizes_snoc : ∀ (l : List T) (t : T), T.sizes (l ++ [t]) = T.sizes l + t.size
 | [], t => by simp [T.sizes]
 | u :: r, t => by simp [T.sizes, T.sizes_snoc r t]; omega
theorem T.sizes_take : ∀ (l : List T) (i : Nat), T.sizes (l.take i) ≤ T.sizes l
 | [], i => by simp
 | t :: r, 0 => by simp [T.sizes]
 | t :: r, i + 1 => by have := T.sizes_take r i; simp [T.sizes]; omega
set_option maxRecDepth 100000 in
set_option maxHeartbeats 1600000 in
theorem size_t : ∀ (N : Nat) (t : T) (w : World) (R : Nat → Prop) (v : Value), t.bulk ≤ N → N ≤ 1048576 → T.In w R t v →
    Calls Tryz.prog 24 #[v] w fun e w' => e = .returned (.int .i64 ((min t.size 3001 : Nat))) ∧ Below w.heap.size w w'
  | 0, t, _, _, _, hN, _, _ => by have := T.bulk_pos t; omega
  | N + 1, t, w, R, v, hN, hN2, h => by
   have ih := size_t N
   obtain ⟨A1, c1, A2, c2, A3, c3, rfl, hnames, hmag, hc3, hkids⟩ := h.open
   obtain ⟨n, hn⟩ : ∃ n, t.ks.length = n := ⟨_, rfl⟩
   obtain ⟨hl1, hl2, hl3, hl4, hlen⟩ := T.len_le hN
   rw [hn] at hkids hc3 hlen ⊢
   have HN := Lib.hid hn
   have HK := Lib.hid hkids
   have HB := Lib.hid hN
   have HNM := Lib.hid hnames
   have HMG := Lib.hid hmag
   clear hn hkids hN h hnames hmag
   go_enter Tryz.func24, Tryz.ntmps24
   go_wp2_with fail
   go_loopg [3, 9] (n + 1) (fun gk v3 v9 wr => ∃ i s : Nat, gk + i = n + 1 ∧ i ≤ n ∧ v9 = .int .i64 (i : Nat) ∧ v3 = .int .i64 (s : Nat) ∧ s ≤ 6001 ∧ Hid (min s 3001 = min (T.sizes (t.ks.take i) + 1) 3001) ∧ Below w.heap.size w wr)
   case atStart => exact ⟨0, 1, by omega, Nat.zero_le _, rfl, rfl, by omega, Lib.hid (by simp [T.sizes]), below_alloc1 _ _⟩
   case round =>
    obtain ⟨i, s, hi, hin, rfl, rfl, hs, HS, hbw⟩ := hrel
    by_cases hlt : i < n
    ·
     by_cases h3 : 3000 < s
     ·
      obtain ⟨b, o, rfl, hk⟩ := HK.out (by omega)
      have hkd := hk i hlt
      obtain ⟨B1, d1, B2, d2, B3, d3, h6, _⟩ := hkd.below hbw
      clear hk hkd
      obtain ⟨u, hu⟩ : ∃ u, t.ks.getD i t0 = u := ⟨_, rfl⟩
      rw [hu] at h6
      clear hu
      obtain ⟨e0, e1, e2, e3, e4, e5⟩ := h6
      have hi0 : (0 : Int) ≤ i := by omega
      have hi1 : (i : Int) < n := by omega
      have q1 : decide ((s : Int) > 3000) = true := decide_eq_true (by omega)
      have q2 : decide (3000 < s) = true := decide_eq_true h3
      have hal := below_alloc1 wr (.cells #[.int .i64 u.k, .string u.nm, .slice B1 u.ns.length d1, .bool u.ng, .slice B2 u.mg.length d2, .slice B3 u.ks.length d3] 28)
      have hres : min t.size 3001 = min s 3001 := by
       have h1 := HS.out
       have h2 := T.sizes_take t.ks i
       rw [T.size_eq]
       omega
      have HR := Lib.hid hres
      have hbw2 := below_on hbw hal
      clear hres hal
      go_wp2_with fail
      go_ret
      exact ⟨by rw [HR.out]; go_num, hbw2⟩
     ·
      obtain ⟨b, o, rfl, hk⟩ := HK.out (by omega)
      have hkd := hk i hlt
      obtain ⟨u, hu⟩ : ∃ u, t.ks.getD i t0 = u := ⟨_, rfl⟩
      rw [hu] at hkd
      have hub : u.bulk ≤ N := by rw [← hu]; exact T.kid_bulk HB.out (by rw [HN.out]; exact hlt)
      have HU := Lib.hid hu
      clear hk hu
      obtain ⟨B1, d1, B2, d2, B3, d3, h6, hkin⟩ := hkd.below hbw
      have HI := Lib.hid hkin
      clear hkin
      obtain ⟨e0, e1, e2, e3, e4, e5⟩ := h6
      have hi0 : (0 : Int) ≤ i := by omega
      have hi1 : (i : Int) < n := by omega
      have hal := below_alloc1 wr (.cells #[.int .i64 u.k, .string u.nm, .slice B1 u.ns.length d1, .bool u.ng, .slice B2 u.mg.length d2, .slice B3 u.ks.length d3] 28)
      have HI2 := Lib.hid (HI.out.below hal)
      have hbw2 := below_on hbw hal
      have q1 : decide ((s : Int) > 3000) = false := decide_eq_false (by omega)
      have q2 : decide (3000 < s) = false := decide_eq_false h3
      obtain ⟨z, hz⟩ : ∃ z, min u.size 3001 = z := ⟨_, rfl⟩
      have hz3 : z ≤ 3001 := by omega
      have hnext : min (s + z) 3001 = min (T.sizes (t.ks.take (i + 1)) + 1) 3001 := by
       rw [take_snoc _ t0 _ (by rw [HN.out]; exact hlt), T.sizes_snoc, HU.out]
       have := HS.out
       omega
      have HX := Lib.hid hnext
      have HZ := Lib.hid hz
      clear hnext hal hz
      go_wp2_with (go_at_call 24; refine (ih u _ R _ hub (by omega) HI2.out).mono ?_; rw [HZ.out]; rintro e w2 ⟨rfl, hb2⟩; replace hbw2 := below_on hbw2 hb2)
      go_roundg (n - i)
      case measure => omega
      case rel => exact ⟨i + 1, s + z, by omega, by omega, by go_num, by go_num, by omega, HX, hbw2⟩
    ·
     obtain rfl : i = n := by omega
     have hres : min t.size 3001 = min s 3001 := by
      have htk : t.ks.take i = t.ks := by rw [← HN.out, List.take_length]
      have := HS.out
      rw [htk] at this
      rw [T.size_eq, this]
     have HR := Lib.hid hres
     clear hres
     go_wp2_with fail
     go_ret
     exact ⟨by rw [HR.out]; go_num, hbw⟩
end
section
open Go.RowKit
set_option maxRecDepth 100000 in
set_option maxHeartbeats 1600000 in
theorem rsize_t : ∀ (N : Nat) (t : T) (w : World) (R : Nat → Prop) (v : Value) (m : Nat), t.bulk ≤ N → N ≤ 1048576 → T.In w R t v → 1 ≤ m → m ≤ 1048576 →
    Calls Tryz.prog 55 #[v, .int .i64 (m : Nat)] w fun e w' => e = .returned (.int .i64 ((min t.size m : Nat))) ∧ Below w.heap.size w w'
  | 0, t, _, _, _, _, hN, _, _, _, _ => by have := T.bulk_pos t; omega
  | N + 1, t, w, R, v, m, hN, hN2, h, hm1, hm2 => by
   have ih := rsize_t N
   obtain ⟨A1, c1, A2, c2, A3, c3, rfl, hnames, hmag, hc3, hkids⟩ := h.open
   obtain ⟨n, hn⟩ : ∃ n, t.ks.length = n := ⟨_, rfl⟩
   obtain ⟨hl1, hl2, hl3, hl4, hlen⟩ := T.len_le hN
   rw [hn] at hkids hc3 hlen ⊢
   have HN := Lib.hid hn
   have HK := Lib.hid hkids
   have HB := Lib.hid hN
   have HNM := Lib.hid hnames
   have HMG := Lib.hid hmag
   clear hn hkids hN h hnames hmag
   go_enter Tryz.func55, Tryz.ntmps55
   go_upto_region 1 with (fail)
   obtain ⟨W1, hW1, pt, hb1⟩ := made_blk w #[.int .i64 t.k, .string t.nm, .slice A1 t.ns.length c1, .bool t.ng, .slice A2 t.mg.length c2, .slice A3 n c3] 28
   obtain ⟨Bt, hBt⟩ : ∃ b, b = w.heap.size := ⟨_, rfl⟩
   rw [← hW1, ← hBt]
   rw [← hBt] at pt
   clear hW1 hBt
   go_wp2_with fail
   go_loopg [5, 6] (n + 1) (fun gk v5 v6 wr => ∃ i s : Nat, gk + i = n + 1 ∧ i ≤ n ∧ v6 = .int .i64 (i : Nat) ∧ v5 = .int .i64 (s : Nat) ∧ s ≤ m ∧ Hid (s = min (T.sizes (t.ks.take i) + 1) m) ∧ Below W1.heap.size W1 wr)
   case atStart => exact ⟨0, 1, by omega, Nat.zero_le _, rfl, rfl, hm1, Lib.hid (by simp [T.sizes]; omega), Below.refl _ _⟩
   case round =>
    obtain ⟨i, s, hi, hin, rfl, rfl, hs, HS, hS⟩ := hrel
    obtain ⟨x0, x1, x2, x3, x4, x5⟩ := (pt.below hS).six
    by_cases hlt : i < n
    ·
     by_cases h3 : s < m
     ·
      obtain ⟨b, o, rfl, hk⟩ := HK.out (by omega)
      have hkd := hk i hlt
      obtain ⟨u, hu⟩ : ∃ u, t.ks.getD i t0 = u := ⟨_, rfl⟩
      rw [hu] at hkd
      have hub : u.bulk ≤ N := by rw [← hu]; exact T.kid_bulk HB.out (by rw [HN.out]; exact hlt)
      have HU := Lib.hid hu
      clear hk hu
      obtain ⟨B1, d1, B2, d2, B3, d3, h6, hkin⟩ := hkd.below (below_on hb1 hS)
      have HI := Lib.hid hkin
      clear hkin
      obtain ⟨e0, e1, e2, e3, e4, e5⟩ := h6
      have hi0 : (0 : Int) ≤ i := by omega
      have hi1 : (i : Int) < n := by omega
      have q3 : decide (s < m) = true := decide_eq_true h3
      have hi2 : decide (i < n) = true := decide_eq_true hlt
      obtain ⟨z, hz⟩ : ∃ z, min u.size (m - s) = z := ⟨_, rfl⟩
      have hzm : z ≤ m - s := by omega
      have hnext : s + z = min (T.sizes (t.ks.take (i + 1)) + 1) m := by
       rw [take_snoc _ t0 _ (by rw [HN.out]; exact hlt), T.sizes_snoc, HU.out]
       have := HS.out
       omega
      have HX := Lib.hid hnext
      have HZ := Lib.hid hz
      have hms : (m : Int) - s = ((m - s : Nat) : Int) := by omega
      have HMS := Lib.hid hms
      clear hnext hz hms
      go_wp2_with (go_at_call 55; rw [HMS.out]; refine (ih u _ R _ (m - s) hub (by omega) HI.out (by omega) (by omega)).mono ?_; rw [HZ.out]; rintro e w2 ⟨rfl, hb2⟩; have hS2 := below_on hS hb2)
      go_roundg (n - i)
      case measure => omega
      case rel => exact ⟨i + 1, s + z, by omega, by omega, by go_num, by go_num, by omega, HX, hS2⟩
     ·
      have q3 : decide (s < m) = false := decide_eq_false h3
      have hi2 : decide (i < n) = true := decide_eq_true hlt
      have hres : min t.size m = s := by
       have h1 := HS.out
       have h2 := T.sizes_take t.ks i
       rw [T.size_eq]
       omega
      have HR := Lib.hid hres
      clear hres
      go_wp2_with fail
      go_ret
      exact ⟨by rw [HR.out]; rfl, below_on hb1 hS⟩
    ·
     obtain rfl : i = n := by omega
     have hres : min t.size m = s := by
      have htk : t.ks.take i = t.ks := by rw [← HN.out, List.take_length]
      have := HS.out
      rw [htk] at this
      rw [T.size_eq, this]
     have HR := Lib.hid hres
     clear hres
     go_wp2_with fail
     go_ret
     exact ⟨by rw [HR.out]; rfl, below_on hb1 hS⟩
set_option maxRecDepth 100000 in
theorem rSize_t (t : T) (w : World) (R : Nat → Prop) (v : Value) (hN : t.bulk ≤ 1048576) (h : T.In w R t v) :
    Calls Tryz.prog 25 #[v] w fun e w' => e = .returned (.int .i64 ((min t.size 3001 : Nat))) ∧ Below w.heap.size w w' := by
  obtain ⟨A1, c1, A2, c2, A3, c3, rfl, _⟩ := h.form
  go_enter Tryz.func25, Tryz.ntmps25
  go_wp2_with (go_at_call 55; refine (rsize_t _ t _ R _ 3001 hN (Nat.le_refl _) (h.below (below_alloc1 _ _)) (by omega) (by omega)).mono ?_; rintro e w2 ⟨rfl, hb2⟩; have hS2 := below_on (below_alloc1 w _) hb2)
  go_ret
  exact ⟨rfl, hS2⟩
end
section
open Go.RowKit
def bareB (ng : Bool) (mg : List Nat) : Bool := !ng && mg.length == 0
mutual
def T.none : T → Bool
 | .node k _ _ ng mg ks => (k == 15 && bareB ng mg) || T.nones ks
def T.nones : List T → Bool
 | [] => false
 | t :: r => t.none || T.nones r
end
theorem T.none_eq (t : T) : t.none = ((t.k == 15 && bareB t.ng t.mg) || T.nones t.ks) := by cases t; simp [T.none, T.k, T.ng, T.mg, T.ks]
theorem T.nones_snoc : ∀ (l : List T) (t : T), T.nones (l ++ [t]) = (T.nones l || t.none)
 | [], t => by simp [T.nones]
 | u :: r, t => by simp [T.nones, T.nones_snoc r t, Bool.or_assoc]
theorem T.nones_get : ∀ (l : List T) (i : Nat), i < l.length → (l.getD i t0).none = true → T.nones l = true
 | [], i, h, _ => absurd h (by simp)
 | t :: r, 0, _, h => by simp at h; simp [T.nones, h]
 | t :: r, i + 1, h, h2 => by
  have := T.nones_get r i (by simpa using h) (by simpa using h2)
  simp [T.nones, this]
set_option maxRecDepth 100000 in
theorem bare_x (w : World) (ng : Bool) (A : Option Addr) (c : Nat) (mg : List Nat) :
    Calls Tryz.prog 85 #[.agg #[.bool ng, .slice A mg.length c]] w fun e w' => e = .returned (.bool (bareB ng mg)) ∧ Below w.heap.size w w' := by
  obtain ⟨G, hG⟩ : ∃ G, bareB ng mg = G := ⟨_, rfl⟩
  rw [hG]
  obtain ⟨n, hn⟩ : ∃ n, mg.length = n := ⟨_, rfl⟩
  unfold bareB at hG
  rw [hn] at hG ⊢
  have hbw := below_alloc1 w (.cells #[.bool ng, .slice A n c] 25)
  have HG := Lib.hid hG
  clear hG hn
  cases ng
  ·
   by_cases h0 : n = 0
   · subst h0
     go_enter Tryz.func85, Tryz.ntmps85
     go_wp2_with fail
     go_ret
     exact ⟨by rw [← HG.out]; rfl, hbw⟩
   · have h1 : ((n : Int) == 0) = false := by simp; omega
     go_enter Tryz.func85, Tryz.ntmps85
     go_wp2_with fail
     go_ret
     exact ⟨by rw [← HG.out]; simp [h0], hbw⟩
  · go_enter Tryz.func85, Tryz.ntmps85
    go_wp2_with fail
    go_ret
    exact ⟨by rw [← HG.out]; rfl, hbw⟩
set_option maxRecDepth 100000 in
set_option maxHeartbeats 1600000 in
theorem index_none (N : Nat) (hN2 : N ≤ 1048576) (ih : ∀ (t : T) (w : World) (R : Nat → Prop) (v : Value), t.bulk ≤ N → N ≤ 1048576 → T.In w R t v → Calls Tryz.prog 47 #[v] w fun e w' => e = .returned (.bool t.none) ∧ Below w.heap.size w w')
    (w : World) (R : Nat → Prop) (A : Option Addr) (c : Nat) (ks : List T) (hcap : ks.length ≤ c) (hl : ks.length ≤ 1048576) (hkid : 0 < ks.length → ∃ b o, A = some ⟨b, o, Option.none⟩ ∧ ∀ i, i < ks.length → KidAt w R b (o + i * 6) (ks.getD i t0)) (hb : ∀ i, i < ks.length → (ks.getD i t0).bulk ≤ N) :
    Calls Tryz.prog 120 #[.slice A ks.length c, .func (.func 47) #[] #[]] w fun e w' => ∃ z : Int, e = .returned (.int .i64 z) ∧ decide (0 ≤ z) = T.nones ks ∧ Below w.heap.size w w' := by
  obtain ⟨n, hn⟩ : ∃ n, ks.length = n := ⟨_, rfl⟩
  rw [hn] at hcap hl hkid hb ⊢
  have HN := Lib.hid hn
  have HK := Lib.hid hkid
  have HB := Lib.hid hb
  clear hn hkid hb
  go_enter Tryz.func120, Tryz.ntmps120
  go_wp2_with fail
  go_loopg [8] (n + 1) (fun gk v8 wr => ∃ i : Nat, gk + i = n + 1 ∧ i ≤ n ∧ v8 = .int .i64 (i : Nat) ∧ Hid (T.nones (ks.take i) = false) ∧ Below w.heap.size w wr)
  case atStart => exact ⟨0, by omega, Nat.zero_le _, rfl, Lib.hid (by simp [T.nones]), Below.refl _ _⟩
  case round =>
   obtain ⟨i, hi, hin, rfl, HS, hbw⟩ := hrel
   by_cases hlt : i < n
   ·
    obtain ⟨b, o, rfl, hk⟩ := HK.out (by omega)
    have hkd := hk i hlt
    have hub := HB.out i hlt
    have hget := T.nones_get ks i (by rw [HN.out]; exact hlt)
    have hsn := T.nones_snoc (ks.take i) (ks.getD i t0)
    rw [← take_snoc _ t0 _ (by rw [HN.out]; exact hlt)] at hsn
    obtain ⟨u, hu⟩ : ∃ u, ks.getD i t0 = u := ⟨_, rfl⟩
    rw [hu] at hkd hub hget hsn
    have HGET := Lib.hid hget
    have HSN := Lib.hid hsn
    clear hk hu hget hsn
    obtain ⟨B1, d1, B2, d2, B3, d3, h6, hkin⟩ := hkd.below hbw
    have HI := Lib.hid hkin
    clear hkin
    obtain ⟨e0, e1, e2, e3, e4, e5⟩ := h6
    have hi0 : (0 : Int) ≤ i := by omega
    have hi1 : (i : Int) < n := by omega
    obtain ⟨r, hr⟩ : ∃ r, u.none = r := ⟨_, rfl⟩
    have HR := Lib.hid hr
    clear hr
    cases r
    · go_wp2_with (go_at_call 47; refine (ih u _ R _ hub (by omega) HI.out).mono ?_; rw [HR.out]; rintro e w2 ⟨rfl, hb2⟩; have hbw2 := below_on hbw hb2)
      go_roundg (n - i)
      case measure => omega
      case rel => exact ⟨i + 1, by omega, by omega, by go_num, Lib.hid (by rw [HSN.out, HS.out, HR.out]; rfl), hbw2⟩
    · go_wp2_with (go_at_call 47; refine (ih u _ R _ hub (by omega) HI.out).mono ?_; rw [HR.out]; rintro e w2 ⟨rfl, hb2⟩; have hbw2 := below_on hbw hb2)
      go_ret
      exact ⟨_, rfl, by rw [HGET.out HR.out]; exact decide_eq_true hi0, hbw2⟩
   ·
    obtain rfl : i = n := by omega
    have htk : ks.take i = ks := by rw [← HN.out, List.take_length]
    have hf := HS.out
    rw [htk] at hf
    have HF := Lib.hid hf
    clear htk hf
    go_wp2_with fail
    go_ret
    exact ⟨_, rfl, by rw [HF.out]; rfl, hbw⟩
set_option maxRecDepth 100000 in
theorem contains_none (N : Nat) (hN2 : N ≤ 1048576) (ih : ∀ (t : T) (w : World) (R : Nat → Prop) (v : Value), t.bulk ≤ N → N ≤ 1048576 → T.In w R t v → Calls Tryz.prog 47 #[v] w fun e w' => e = .returned (.bool t.none) ∧ Below w.heap.size w w')
    (w : World) (R : Nat → Prop) (A : Option Addr) (c : Nat) (ks : List T) (hcap : ks.length ≤ c) (hl : ks.length ≤ 1048576) (hkid : 0 < ks.length → ∃ b o, A = some ⟨b, o, Option.none⟩ ∧ ∀ i, i < ks.length → KidAt w R b (o + i * 6) (ks.getD i t0)) (hb : ∀ i, i < ks.length → (ks.getD i t0).bulk ≤ N) :
    Calls Tryz.prog 87 #[.slice A ks.length c, .func (.func 47) #[] #[]] w fun e w' => e = .returned (.bool (T.nones ks)) ∧ Below w.heap.size w w' := by
  have H := Lib.hid (index_none N hN2 ih w R A c ks hcap hl hkid hb)
  obtain ⟨n, hn⟩ : ∃ n, ks.length = n := ⟨_, rfl⟩
  rw [hn] at H ⊢
  clear hkid hb ih hn hcap hl
  go_enter Tryz.func87, Tryz.ntmps87
  go_wp2_with (go_at_call 120; refine H.out.mono ?_; rintro e w2 ⟨z, rfl, hz, hb2⟩)
  go_ret
  exact ⟨by rw [← hz]; simp, hb2⟩
set_option maxRecDepth 100000 in
set_option maxHeartbeats 1600000 in
theorem none_t : ∀ (N : Nat) (t : T) (w : World) (R : Nat → Prop) (v : Value), t.bulk ≤ N → N ≤ 1048576 → T.In w R t v →
    Calls Tryz.prog 47 #[v] w fun e w' => e = .returned (.bool t.none) ∧ Below w.heap.size w w'
  | 0, t, _, _, _, hN, _, _ => by have := T.bulk_pos t; omega
  | N + 1, t, w, R, v, hN, hN2, h => by
   have ih := none_t N
   obtain ⟨A1, c1, A2, c2, A3, c3, rfl, hnames, hmag, hc3, hkids⟩ := h.open
   obtain ⟨n, hn⟩ : ∃ n, t.ks.length = n := ⟨_, rfl⟩
   obtain ⟨hl1, hl2, hl3, hl4, hlen⟩ := T.len_le hN
   rw [hn] at hkids hc3 hlen ⊢
   have HN := Lib.hid hn
   have HK := Lib.hid hkids
   have HB := Lib.hid hN
   have HNM := Lib.hid hnames
   have HMG := Lib.hid hmag
   clear hn hkids hN h hnames hmag
   go_enter Tryz.func47, Tryz.ntmps47
   go_upto_region 1 with (fail)
   obtain ⟨W1, hW1, pt, hb1⟩ := made_blk w #[.int .i64 t.k, .string t.nm, .slice A1 t.ns.length c1, .bool t.ng, .slice A2 t.mg.length c2, .slice A3 n c3] 28
   obtain ⟨Bt, hBt⟩ : ∃ b, b = w.heap.size := ⟨_, rfl⟩
   rw [← hW1, ← hBt]
   rw [← hBt] at pt
   clear hW1 hBt
   have hS := Below.refl W1.heap.size W1
   obtain ⟨x0, x1, x2, x3, x4, x5⟩ := pt.six
   have hcn := contains_none N (by omega) ih
   have HC := Lib.hid hcn
   have hbu : ∀ i, i < t.ks.length → (t.ks.getD i t0).bulk ≤ N := fun i hi => T.kid_bulk HB.out hi
   have HBU := Lib.hid hbu
   clear hcn hbu
   have HCC : Hid (∀ w', Below W1.heap.size W1 w' → Calls Tryz.prog 87 #[.slice A3 n c3, .func (.func 47) #[] #[]] w' fun e w'' => e = .returned (.bool (T.nones t.ks)) ∧ Below w'.heap.size w' w'') := Lib.hid (fun w' hb' => by
    have := HC.out w' R A3 c3 t.ks (by rw [HN.out]; exact hc3) (by rw [HN.out]; omega) (by
     rw [HN.out]
     intro h0
     obtain ⟨b, o, e, hk⟩ := HK.out h0
     exact ⟨b, o, e, fun i hi => (hk i hi).below (below_on hb1 hb')⟩) HBU.out
    rwa [HN.out] at this)
   have HE := Lib.hid (T.none_eq t)
   by_cases hk : t.k = 15
   ·
    have hkk : (t.k == 15) = true := by simp [hk]
    obtain ⟨r, hr⟩ : ∃ r, bareB t.ng t.mg = r := ⟨_, rfl⟩
    have HR := Lib.hid hr
    clear hr hk
    cases r
    · go_wp2_with (first
       | (go_at_call 85; refine (bare_x _ _ _ _ _).mono ?_; rw [HR.out]; rintro e w2 ⟨rfl, hb2⟩; have hS2 := below_on hS hb2; obtain ⟨y0, y1, y2, y3, y4, y5⟩ := (pt.below hb2).six)
       | (go_at_call 87; refine (HCC.out _ hS2).mono ?_; rintro e w3 ⟨rfl, hb3⟩; have hS3 := below_on hS2 hb3))
      go_ret
      exact ⟨by rw [HE.out, HR.out]; simp, below_on hb1 hS3⟩
    · go_wp2_with (first
       | (go_at_call 85; refine (bare_x _ _ _ _ _).mono ?_; rw [HR.out]; rintro e w2 ⟨rfl, hb2⟩; have hS2 := below_on hS hb2))
      go_ret
      exact ⟨by rw [HE.out, hkk, HR.out]; rfl, below_on hb1 hS2⟩
   · have hkk : (t.k == 15) = false := by simp [hk]
     clear hk
     go_wp2_with (go_at_call 87; refine (HCC.out _ hS).mono ?_; rintro e w3 ⟨rfl, hb3⟩; have hS3 := below_on hS hb3)
     go_ret
     exact ⟨by rw [HE.out, hkk]; simp, below_on hb1 hS3⟩
end
section
open Go.RowKit
def okK (k : Int) : Bool := decide (1 ≤ k) && decide (k ≤ 22)
def fmK (k : Int) : Bool := decide (7 ≤ k) && decide (k ≤ 22)
def nameK (k : Int) : Bool := k == 2
def namesK (k : Int) : Bool := k == 21 || k == 22
def numK (k : Int) : Bool := k == 1 || k == 6 || k == 15
def leastK (k : Int) : Int := if k == 1 || k == 2 || k == 7 || k == 8 then 0 else if k == 3 || k == 6 || k == 15 || k == 16 || k == 21 || k == 22 then 1 else 2
def mostK (k : Int) : Int := if k == 1 || k == 2 || k == 7 || k == 8 then 0 else if k == 3 || k == 6 || k == 15 || k == 16 || k == 21 || k == 22 then 1 else if k == 17 || k == 18 then -1 else 2
def innerK (k : Int) : Bool := decide (16 ≤ k)
theorem kinds {k : Int} (h1 : 1 ≤ k) (h2 : k ≤ 22) : k = 1 ∨ k = 2 ∨ k = 3 ∨ k = 4 ∨ k = 5 ∨ k = 6 ∨ k = 7 ∨ k = 8 ∨ k = 9 ∨ k = 10 ∨ k = 11 ∨ k = 12 ∨ k = 13 ∨ k = 14 ∨ k = 15 ∨ k = 16 ∨ k = 17 ∨ k = 18 ∨ k = 19 ∨ k = 20 ∨ k = 21 ∨ k = 22 := by omega
theorem sizeShape : (Tryz.prog.info? 116).map (·.size) = some 7 := by kernel_rfl
theorem results_shape {fn : Func} {p u : Tmp} (h : fn.results = #[.cell p 116, .tmp u]) (tmps : Array Value) (w : World) (g : Nat) (t : TypeId) (a0 a1 a2 a3 a4 a5 a6 : Value)
    (hp : tmps.getD p undef = .pointer (some ⟨g, 0, none⟩)) (hg : Blk w g t #[a0, a1, a2, a3, a4, a5, a6]) : (results fn tmps).run Tryz.prog w = .ok (.tuple #[.agg #[a0, a1, a2, a3, a4, a5, a6], tmps.getD u undef]) w := by
  have hp' : tmps[p]?.getD undef = .pointer (some ⟨g, 0, none⟩) := by simpa using hp
  simp [results, h, hp', asAddr, run_loadVar_row w g _ 116 _ _ _ hg Tryz.underlying116 rfl sizeShape]
set_option maxHeartbeats 3200000 in
theorem shaped_x (w : World) (k : Int) : Calls Tryz.prog 81 #[.int .i64 k] w fun e w' => (okK k = true → e = .returned (.tuple #[.agg #[.bool (nameK k), .bool (namesK k), .bool (numK k), .int .i64 (leastK k), .int .i64 (mostK k), .bool (innerK k), .bool (fmK k)], .bool true])) ∧ (okK k = false → ∃ s0 s1 s2 s3 s4 s5 s6, e = .returned (.tuple #[.agg #[.bool s0, .bool s1, .bool s2, .int .i64 s3, .int .i64 s4, .bool s5, .bool s6], .bool false])) ∧ Below w.heap.size w w' := by
 by_cases h1 : 1 ≤ k ∧ k ≤ 22
 ·
  rcases kinds h1.1 h1.2 with rfl | rfl | rfl | rfl | rfl | rfl | rfl | rfl | rfl | rfl | rfl | rfl | rfl | rfl | rfl | rfl | rfl | rfl | rfl | rfl | rfl | rfl
  all_goals
   clear h1
   go_enter Tryz.func81, Tryz.ntmps81
   go_wp2_with fail
   refine bodyPost_ret (results_shape rfl _ _ w.heap.size _ _ _ _ _ _ _ _ rfl ((Blk.new _ _ _).below (below_alloc1 _ _))) rfl ?_
   exact ⟨fun _ => rfl, fun h => absurd h (by decide), below_on (below_alloc1 _ _) (below_alloc1 _ _)⟩
 ·
  have hok : okK k = false := by
   unfold okK
   by_cases h2 : 1 ≤ k
   · rw [decide_eq_false (show ¬ k ≤ 22 from fun h => h1 ⟨h2, h⟩)]; simp
   · rw [decide_eq_false h2]; simp
  have HOK := Lib.hid hok
  clear hok
  have n1 : (k == 1) = false := by simp; omega
  have n2 : (k == 2) = false := by simp; omega
  have n3 : (k == 3) = false := by simp; omega
  have n4 : (k == 4) = false := by simp; omega
  have n5 : (k == 5) = false := by simp; omega
  have n6 : (k == 6) = false := by simp; omega
  have n7 : (k == 7) = false := by simp; omega
  have n8 : (k == 8) = false := by simp; omega
  have n9 : (k == 9) = false := by simp; omega
  have n10 : (k == 10) = false := by simp; omega
  have n11 : (k == 11) = false := by simp; omega
  have n12 : (k == 12) = false := by simp; omega
  have n13 : (k == 13) = false := by simp; omega
  have n14 : (k == 14) = false := by simp; omega
  have n15 : (k == 15) = false := by simp; omega
  have n16 : (k == 16) = false := by simp; omega
  have n17 : (k == 17) = false := by simp; omega
  have n18 : (k == 18) = false := by simp; omega
  have n19 : (k == 19) = false := by simp; omega
  have n20 : (k == 20) = false := by simp; omega
  have n21 : (k == 21) = false := by simp; omega
  have n22 : (k == 22) = false := by simp; omega
  clear h1
  go_enter Tryz.func81, Tryz.ntmps81
  go_wp2_with fail
  refine bodyPost_ret (results_shape rfl _ _ w.heap.size _ _ _ _ _ _ _ _ rfl ((Blk.new _ _ _).below (below_alloc1 _ _))) rfl ?_
  exact ⟨fun h => (by rw [HOK.out] at h; cases h), fun _ => ⟨_, _, _, _, _, _, _, rfl⟩, below_on (below_alloc1 _ _) (below_alloc1 _ _)⟩
end
section
open Go.RowKit
def nameB (s : ByteArray) : Bool := X.name s.data.toList
def namesB (ns : List ByteArray) : Bool := ns.all nameB
theorem namesB_snoc (l : List ByteArray) (s : ByteArray) : namesB (l ++ [s]) = (namesB l && nameB s) := by simp [namesB]
theorem namesB_get : ∀ (l : List ByteArray) (i : Nat), i < l.length → nameB (l.getD i ⟨#[]⟩) = false → namesB l = false
 | [], i, h, _ => absurd h (by simp)
 | t :: r, 0, _, h => by simp at h; simp [namesB, h]
 | t :: r, i + 1, h, h2 => by
  have := namesB_get r i (by simpa using h) (by simpa using h2)
  simp [namesB] at this ⊢
  intro _
  exact this
theorem StrL.below {w w' : World} {R : Nat → Prop} {A : Option Addr} {c : Nat} {ns : List ByteArray} (h : StrL w R A c ns) (hb : Below w.heap.size w w') : StrL w' R A c ns := h.keep (fun _ _ _ hp => keep_cell hp hb) (fun _ h => h)
theorem SlR.below {w w' : World} {R : Nat → Prop} {A : Option Addr} {c : Nat} {l : List Nat} (h : SlR w R A c l) (hb : Below w.heap.size w w') : SlR w' R A c l := h.keep (fun _ _ _ hp => keep_cell hp hb) (fun _ h => h)
set_option maxRecDepth 100000 in
theorem made1_x (w : World) (s : ByteArray) (hs : s.size ≤ 1048576) :
    Calls Tryz.prog 84 #[.string s] w fun e w' => e = .returned (.bool (!nameB s)) ∧ w' = w := by
  go_enter Tryz.func84, Tryz.ntmps84
  go_wp2_with (go_at_call 82; refine (isname_x _ s (by omega)).mono ?_; rintro e w2 ⟨rfl, rfl⟩)
  go_ret
  exact ⟨rfl, rfl⟩
set_option maxRecDepth 100000 in
set_option maxHeartbeats 1600000 in
theorem index_names (w : World) (R : Nat → Prop) (A : Option Addr) (c : Nat) (ns : List ByteArray) (h : StrL w R A c ns) (hb : sbulk ns ≤ 1048576) :
    Calls Tryz.prog 119 #[.slice A ns.length c, .func (.func 84) #[] #[]] w fun e w' => ∃ z : Int, e = .returned (.int .i64 z) ∧ decide (0 ≤ z) = !namesB ns ∧ w' = w := by
  have hl := sbulk_len ns
  obtain ⟨hcap, hc⟩ := h
  obtain ⟨n, hn⟩ : ∃ n, ns.length = n := ⟨_, rfl⟩
  rw [hn] at hcap hc hl ⊢
  have HN := Lib.hid hn
  have HK := Lib.hid hc
  clear hn hc
  go_enter Tryz.func119, Tryz.ntmps119
  go_wp2_with fail
  go_loopg [8] (n + 1) (fun gk v8 wr => ∃ i : Nat, gk + i = n + 1 ∧ i ≤ n ∧ v8 = .int .i64 (i : Nat) ∧ Hid (namesB (ns.take i) = true) ∧ wr = w)
  case atStart => exact ⟨0, by omega, Nat.zero_le _, rfl, Lib.hid rfl, rfl⟩
  case round =>
   obtain ⟨i, hi, hin, rfl, HS, rfl⟩ := hrel
   by_cases hlt : i < n
   ·
    obtain ⟨b, o, rfl, _, hk⟩ := HK.out (by omega)
    have e0 := hk i hlt
    have hsz := sbulk_get ns i (by rw [HN.out]; exact hlt)
    have hget := namesB_get ns i (by rw [HN.out]; exact hlt)
    have hsn := namesB_snoc (ns.take i) (ns.getD i ⟨#[]⟩)
    rw [← take_snoc _ _ _ (by rw [HN.out]; exact hlt)] at hsn
    obtain ⟨s, hs⟩ : ∃ s, ns.getD i ⟨#[]⟩ = s := ⟨_, rfl⟩
    rw [hs] at e0 hsz hget hsn
    have HGET := Lib.hid hget
    have HSN := Lib.hid hsn
    clear hk hs hget hsn
    have hi0 : (0 : Int) ≤ i := by omega
    have hi1 : (i : Int) < n := by omega
    obtain ⟨r, hr⟩ : ∃ r, nameB s = r := ⟨_, rfl⟩
    have HR := Lib.hid hr
    clear hr
    cases r
    · go_wp2_with (go_at_call 84; refine (made1_x _ s (by omega)).mono ?_; rw [HR.out]; rintro e w2 ⟨rfl, rfl⟩)
      go_ret
      exact ⟨_, rfl, by rw [HGET.out HR.out]; exact decide_eq_true hi0, rfl⟩
    · go_wp2_with (go_at_call 84; refine (made1_x _ s (by omega)).mono ?_; rw [HR.out]; rintro e w2 ⟨rfl, rfl⟩)
      go_roundg (n - i)
      case measure => omega
      case rel => exact ⟨i + 1, by omega, by omega, by go_num, Lib.hid (by rw [HSN.out, HS.out, HR.out]; rfl), rfl⟩
   ·
    obtain rfl : i = n := by omega
    have htk : ns.take i = ns := by rw [← HN.out, List.take_length]
    have hf := HS.out
    rw [htk] at hf
    have HF := Lib.hid hf
    clear htk hf
    go_wp2_with fail
    go_ret
    exact ⟨_, rfl, by rw [HF.out]; rfl, rfl⟩
set_option maxRecDepth 100000 in
theorem contains_names (w : World) (R : Nat → Prop) (A : Option Addr) (c : Nat) (ns : List ByteArray) (h : StrL w R A c ns) (hb : sbulk ns ≤ 1048576) :
    Calls Tryz.prog 83 #[.slice A ns.length c, .func (.func 84) #[] #[]] w fun e w' => e = .returned (.bool (!namesB ns)) ∧ w' = w := by
  have H := Lib.hid (index_names w R A c ns h hb)
  obtain ⟨n, hn⟩ : ∃ n, ns.length = n := ⟨_, rfl⟩
  rw [hn] at H ⊢
  clear hb h hn
  go_enter Tryz.func83, Tryz.ntmps83
  go_wp2_with (go_at_call 119; refine H.out.mono ?_; rintro e w2 ⟨z, rfl, hz, rfl⟩)
  go_ret
  exact ⟨by rw [← hz]; simp, rfl⟩
end
end Go.Proofs.YthiadenmljbdaaaGreatDoor
