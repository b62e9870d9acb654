/-
  The laws' variables that hold loans, and the lists of loans that 'is' is handed.
-/
import Derived.Test.YtchbamlfdknkgaaDoorRVal
namespace Go.Proofs.YtchbamlfdknkgaaDoor
open Go.RowKit

/-- The variable at block b holds the loan. -/
def VarAt (w : World) (b gf gw n : Nat) : Prop :=
  w.cell? ⟨b, 0, none⟩ = some (.slice (some ⟨gf, 0, none⟩) (n + 4) (n + 4)) ∧ w.cell? ⟨b, 1, none⟩ = some (.int .i64 n) ∧ w.cell? ⟨b, 2, none⟩ = some (.slice (some ⟨gw, 0, none⟩) (n + 4) (n + 4))
theorem VarAt.below {w w' : World} {b gf gw n : Nat} (h : VarAt w b gf gw n) (hb : Below w.heap.size w w') : VarAt w' b gf gw n :=
  ⟨(hb.cell (World.block_lt_of_cell? w _ h.1)).trans h.1, (hb.cell (World.block_lt_of_cell? w _ h.2.1)).trans h.2.1, (hb.cell (World.block_lt_of_cell? w _ h.2.2)).trans h.2.2⟩
theorem var_new (w : World) (t : TypeId) (gf gw n : Nat) :
    ∃ W : World, W = w.alloc (.cells #[.slice (some ⟨gf, 0, none⟩) (n + 4) (n + 4), .int .i64 n, .slice (some ⟨gw, 0, none⟩) (n + 4) (n + 4)] t) ∧ VarAt W w.heap.size gf gw n ∧ Below w.heap.size w W := by
  have h0 := heap_alloc_new w (.cells #[.slice (some ⟨gf, 0, none⟩) (n + 4) (n + 4), .int .i64 n, .slice (some ⟨gw, 0, none⟩) (n + 4) (n + 4)] t)
  refine ⟨_, rfl, ⟨?_, ?_, ?_⟩, (Below.refl _ _).alloc (Nat.le_refl _) _⟩ <;> (rw [cell_of_row _ _ _ _ _ _ h0]; rfl)
theorem below_on {wk w w' : World} (h : Below wk.heap.size wk w) (hb : Below w.heap.size w w') : Below wk.heap.size wk w' := h.trans (hb.mono h.size)
theorem size_on {wk w w' : World} (h : Below wk.heap.size wk w) (_ : Below w.heap.size w w') : wk.heap.size ≤ w.heap.size := h.size
theorem below_alloc1 (w : World) (o : Obj) : Below w.heap.size w (w.alloc o) := (Below.refl _ _).alloc (Nat.le_refl _) o
theorem below_drew1 (w : World) : Below w.heap.size w w.drew := (Below.refl _ _).drew
theorem s_below {V : Prop} {wk w : World} (h : V ∧ Below wk.heap.size wk w) : Below wk.heap.size wk w := h.2
theorem below_gb {wk w w' : World} {g : Nat} (h : Below wk.heap.size wk w) (hg : w.grownBy w' (some g)) (hle : wk.heap.size ≤ g) : Below wk.heap.size wk w' :=
  ⟨hg.os.trans h.os, hg.tape.trans h.tape, hg.output.trans h.output, Nat.le_trans h.size hg.size, fun i hi => (hg.block i (Nat.lt_of_lt_of_le hi h.size) (by intro e; injection e; omega)).trans (h.block i hi)⟩

/-- A list of two loans in block L; of one. -/
def Arr2 (w : World) (L gx ux nx gy uy ny : Nat) : Prop :=
  w.cell? ⟨L, 0 * 3, none⟩ = some (.slice (some ⟨gx, 0, none⟩) (nx + 4) (nx + 4)) ∧ w.cell? ⟨L, 0 * 3 + 2, none⟩ = some (.slice (some ⟨ux, 0, none⟩) (nx + 4) (nx + 4)) ∧
  w.cell? ⟨L, 1 * 3, none⟩ = some (.slice (some ⟨gy, 0, none⟩) (ny + 4) (ny + 4)) ∧ w.cell? ⟨L, 1 * 3 + 2, none⟩ = some (.slice (some ⟨uy, 0, none⟩) (ny + 4) (ny + 4))
def Arr1 (w : World) (L gx ux nx : Nat) : Prop :=
  w.cell? ⟨L, 0 * 3, none⟩ = some (.slice (some ⟨gx, 0, none⟩) (nx + 4) (nx + 4)) ∧ w.cell? ⟨L, 0 * 3 + 2, none⟩ = some (.slice (some ⟨ux, 0, none⟩) (nx + 4) (nx + 4))
theorem keep_cell {w w' : World} {p : Addr} {v : Value} (h : w.cell? p = some v) (hb : Below w.heap.size w w') : w'.cell? p = some v := (hb.cell (World.block_lt_of_cell? w _ h)).trans h
theorem Arr2.below {w w' : World} {L gx ux nx gy uy ny : Nat} (h : Arr2 w L gx ux nx gy uy ny) (hb : Below w.heap.size w w') : Arr2 w' L gx ux nx gy uy ny :=
  ⟨keep_cell h.1 hb, keep_cell h.2.1 hb, keep_cell h.2.2.1 hb, keep_cell h.2.2.2 hb⟩
theorem Arr1.below {w w' : World} {L gx ux nx : Nat} (h : Arr1 w L gx ux nx) (hb : Below w.heap.size w w') : Arr1 w' L gx ux nx :=
  ⟨keep_cell h.1 hb, keep_cell h.2 hb⟩
theorem Arr2.drew {w : World} {L gx ux nx gy uy ny : Nat} (h : Arr2 w L gx ux nx gy uy ny) : Arr2 w.drew L gx ux nx gy uy ny := h
theorem Arr2.new (w : World) (gx ux nx gy uy ny : Nat) {t : TypeId} :
    Arr2 (w.alloc (.cells #[.slice (some ⟨gx, 0, none⟩) (nx + 4) (nx + 4), .int .i64 nx, .slice (some ⟨ux, 0, none⟩) (nx + 4) (nx + 4), .slice (some ⟨gy, 0, none⟩) (ny + 4) (ny + 4), .int .i64 ny, .slice (some ⟨uy, 0, none⟩) (ny + 4) (ny + 4)] t)) w.heap.size gx ux nx gy uy ny := by
  have h0 := heap_alloc_new w (.cells #[.slice (some ⟨gx, 0, none⟩) (nx + 4) (nx + 4), .int .i64 nx, .slice (some ⟨ux, 0, none⟩) (nx + 4) (nx + 4), .slice (some ⟨gy, 0, none⟩) (ny + 4) (ny + 4), .int .i64 ny, .slice (some ⟨uy, 0, none⟩) (ny + 4) (ny + 4)] t)
  refine ⟨?_, ?_, ?_, ?_⟩ <;> (rw [cell_of_row _ _ _ _ _ _ h0]; rfl)
theorem Arr1.new (w : World) (gx ux nx : Nat) {t : TypeId} :
    Arr1 (w.alloc (.cells #[.slice (some ⟨gx, 0, none⟩) (nx + 4) (nx + 4), .int .i64 nx, .slice (some ⟨ux, 0, none⟩) (nx + 4) (nx + 4)] t)) w.heap.size gx ux nx := by
  have h0 := heap_alloc_new w (.cells #[.slice (some ⟨gx, 0, none⟩) (nx + 4) (nx + 4), .int .i64 nx, .slice (some ⟨ux, 0, none⟩) (nx + 4) (nx + 4)] t)
  refine ⟨?_, ?_⟩ <;> (rw [cell_of_row _ _ _ _ _ _ h0]; rfl)
theorem slice_ne_own {w : World} {L base g n c k : Nat} {l : List Nat} {A : Option Addr} {p q : Nat} (h : w.cell? ⟨L, k, none⟩ = some (.slice A p q)) (ho : Own w base g n c l) : L ≠ g := by
  intro e
  subst e
  rcases ho.own.2 with ⟨e, _⟩ | ⟨g', cap, cur, e, a1, a2, a3, a4, a5, a6⟩
  · cases e
  injection e with e1 e2 e3
  injection e1 with e1; injection e1 with e1
  subst e1; subst e3
  have hk := h
  rw [cell_of_row _ _ _ _ _ _ a2] at hk
  have hlt := (Array.getElem?_eq_some_iff.1 hk).1
  obtain ⟨z, hz⟩ := ho.full k (by omega)
  rw [h] at hz
  cases hz
theorem Loan.lt {w : World} {gf gw n K x : Nat} {l : List Nat} (h : Loan w gf gw n l K x) : gf < w.heap.size ∧ gw < w.heap.size := by
  obtain ⟨b, o, e, hc⟩ := h.full.cells (by omega)
  obtain ⟨b2, o2, e2, hc2⟩ := h.want.cells (by omega)
  injection e with e; injection e with e _ _
  injection e2 with e2; injection e2 with e2 _ _
  subst e; subst e2
  exact ⟨World.block_lt_of_cell? w _ (hc 0 (by omega)), World.block_lt_of_cell? w _ (hc2 0 (by omega))⟩
theorem is_two {w : World} {base g n c x B' m d L lc gx ux nx gy uy ny Kx Ky X Y : Nat} {B : Option Addr} {lx ly : List Nat} (ho : Own w base g n c (N.ofN x)) (hw : Sl w B m d (N.ofN x)) (hn : n ≤ 35184372088832)
    (hA : Arr2 w L gx ux nx gy uy ny) (hx : Loan w gx ux nx lx Kx X) (hy : Loan w gy uy ny ly Ky Y) (hKx : Kx ≤ 17592186044416) (hKy : Ky ≤ 17592186044416) (hB : B' ≤ g) (h1 : gx < B' ∧ ux < B') (h2 : gy < B' ∧ uy < B') (hlc : 2 ≤ lc) :
    Calls Tryd.prog 38 #[.slice (some ⟨g, 0, none⟩) n c, .slice B m d, .slice (some ⟨L, 0, none⟩) 2 lc] w fun e w' => e = .returned (.bool true) ∧ w.grownBy w' (some g) := by
  have hLg := slice_ne_own hA.1 ho
  have hnx := hx.le
  have hny := hy.le
  refine is_any w base g n c x B m d (some ⟨L, 0, none⟩) L 2 lc ho hw hn (by omega) (fun _ => rfl) (fun _ => hLg) (fun i hi => ?_) hlc
  rcases (show i = 0 ∨ i = 1 by omega) with rfl | rfl
  · exact ⟨gx, ux, nx + 4, lx, hA.1, hA.2.1, hx.full, hx.want, by omega, by omega, by omega⟩
  · exact ⟨gy, uy, ny + 4, ly, hA.2.2.1, hA.2.2.2, hy.full, hy.want, by omega, by omega, by omega⟩
theorem is_one {w : World} {base g n c x B' m d L lc gx ux nx Kx X : Nat} {B : Option Addr} {lx : List Nat} (ho : Own w base g n c (N.ofN x)) (hw : Sl w B m d (N.ofN x)) (hn : n ≤ 35184372088832)
    (hA : Arr1 w L gx ux nx) (hx : Loan w gx ux nx lx Kx X) (hKx : Kx ≤ 17592186044416) (hB : B' ≤ g) (h1 : gx < B' ∧ ux < B') (hlc : 1 ≤ lc) :
    Calls Tryd.prog 38 #[.slice (some ⟨g, 0, none⟩) n c, .slice B m d, .slice (some ⟨L, 0, none⟩) 1 lc] w fun e w' => e = .returned (.bool true) ∧ w.grownBy w' (some g) := by
  have hLg := slice_ne_own hA.1 ho
  have hnx := hx.le
  refine is_any w base g n c x B m d (some ⟨L, 0, none⟩) L 1 lc ho hw hn (by omega) (fun _ => rfl) (fun _ => hLg) (fun i hi => ?_) hlc
  obtain rfl : i = 0 := by omega
  exact ⟨gx, ux, nx + 4, lx, hA.1, hA.2, hx.full, hx.want, by omega, by omega, by omega⟩
/-- nat.Sub, whichever is the greater. -/
theorem sub_u {w : World} {a b : Value} {K L x y : Nat} (ha : Val w a K x) (hb : Val w b L y) (hK : K ≤ 35184372088832) (hL : L ≤ 35184372088832) :
    Calls Tryd.prog 58 #[a, b] w fun e w' => ∃ v z, e = .returned (.tuple #[v, .int .i64 z]) ∧ ((x < y ∧ v = .slice none 0 0 ∧ z = 10) ∨ (y ≤ x ∧ z = 0 ∧ Fre w w' v K (x - y))) ∧ Below w.heap.size w w' := by
  rcases Nat.lt_or_ge x y with h | h
  · refine (sub_n ha hb (by omega) (by omega) h).mono ?_
    rintro e w' ⟨rfl, hb⟩
    exact ⟨_, _, rfl, .inl ⟨h, rfl, rfl⟩, hb⟩
  · refine (sub_v ha hb (by omega) (by omega) h).mono ?_
    rintro e w' ⟨v, rfl, hv, hb⟩
    exact ⟨_, _, rfl, .inr ⟨h, rfl, hv⟩, hb⟩
theorem cmp_neg (x y : Nat) : decide (N.cmpN x y < 0) = decide (x < y) := by
  rcases N.cmpN_cases x y with ⟨h1, e⟩ | ⟨h1, e⟩ | ⟨h1, e⟩
  · rw [e]; simp [h1]
  · rw [e]; simp [h1]
  · rw [e]; simp; omega
end Go.Proofs.YtchbamlfdknkgaaDoor
