/-
  Helpers of LexWords: pick with any bound, a list's first words, a word against the document's.
-/
import Derived.Test.YtkioaogpmifgeaaDoorLexX2
namespace Go.Proofs.YtkioaogpmifgeaaDoor
open Go.RowKit

theorem pick_n (w : World) (z : Int) (hz : I64 z) (n : Nat) (hn : 0 < n) (hn2 : n ≤ 5000) :
    Calls Tryd.prog 15 #[.int .i64 z, .int .i64 (n : Nat)] w fun e w' => ∃ r : Nat, e = .returned (.int .i64 (r : Nat)) ∧ r < n ∧ w = w' := by
  obtain ⟨h1, h2⟩ := hz
  have n0 : ((n : Int) == 0) = false := by simp; omega
  have n1 : ((n : Int) == -1) = false := by simp
  have n2 : ¬ ((n : Int) = 0) := by omega
  have n3 : (n : Int) ≤ 5000 := by omega
  by_cases h0 : z < 0
  · have d1 : decide (z < 0) = true := decide_eq_true h0
    obtain ⟨q, hq⟩ : ∃ q : Nat, -(z + 1) = (q : Int) := ⟨(-(z + 1)).toNat, by omega⟩
    have hm : ((q : Int).tmod n) = ((q % n : Nat) : Int) := by rw [Int.tmod_eq_emod_of_nonneg (by omega)]; exact (Int.natCast_emod q n).symm
    have hlt := Nat.mod_lt q hn
    have hlt2 : q % n ≤ 5000 := by omega
    go_enter Tryd.func15, Tryd.ntmps15
    go_wp2_with fail
    go_ret
    exact ⟨q % n, rfl, hlt, rfl⟩
  · obtain ⟨q, rfl⟩ : ∃ q : Nat, z = (q : Int) := ⟨z.toNat, by omega⟩
    have d1 : decide ((q : Int) < 0) = false := decide_eq_false h0
    have hm : ((q : Int).tmod n) = ((q % n : Nat) : Int) := by rw [Int.tmod_eq_emod_of_nonneg (by omega)]; exact (Int.natCast_emod q n).symm
    have hlt := Nat.mod_lt q hn
    go_enter Tryd.func15, Tryd.ntmps15
    go_wp2_with fail
    go_ret
    exact ⟨q % n, rfl, hlt, rfl⟩
theorem ArrT.take {w : World} {A : Option Addr} {n c k : Nat} {ts : List Wd} (h : ArrT w (.slice A n c) ts) (hk : k ≤ n) : ArrT w (.slice A k c) (ts.take k) := by
  obtain ⟨A', c', e, h⟩ := h
  injection e with e1 e2 e3
  subst e1; subst e2; subst e3
  have hl : (ts.take k).length = k := by rw [List.length_take]; omega
  refine ⟨A, c, by rw [hl], fun hn => ?_⟩
  rw [hl] at hn
  obtain ⟨g, e, hc⟩ := h (by omega)
  refine ⟨g, e, fun i hi => ?_⟩
  rw [hl] at hi
  have e2 : (ts.take k).getD i wd0 = ts.getD i wd0 := by simp only [List.getD_eq_getElem?_getD]; rw [List.getElem?_take_of_lt hi]
  rw [e2]
  exact hc i (by omega)
theorem X.tks_take (l : List UInt8) (ps : List (Nat × Nat × Nat)) (k : Nat) : (X.tks l ps).take k = X.tks l (ps.take k) := by simp [X.tks, List.map_take]
/-- A word that is handed on, against the document's: what is. -/
theorem is_w {w : World} {base : Nat} {l : List UInt8} {pre : List Tq} {x : Tq} {B : Option Addr} {m d : Nat} (hnx : Nx l pre x) (hm : MagOf base w (.slice x.2.2.1.1 x.2.2.1.2.1 x.2.2.1.2.2) x.1 x.2.1.data.toList) (hb : Sl w B m d ((X.tks l (X.tokens l).1).getD pre.length wd0).2.2.1) :
    Calls Tryd.prog 17 #[.agg #[.int .i64 (x.1 : Nat), .string x.2.1, .bool false, .slice x.2.2.1.1 x.2.2.1.2.1 x.2.2.1.2.2, .int .i64 (x.2.2.2 : Nat)], .agg #[.int .i64 (((X.tks l (X.tokens l).1).getD pre.length wd0).1 : Nat), .string ((X.tks l (X.tokens l).1).getD pre.length wd0).2.1, .bool false, .slice B m d, .int .i64 (((X.tks l (X.tokens l).1).getD pre.length wd0).2.2.2 : Nat)]] w fun e w' => e = .returned (.bool true) ∧ Below w.heap.size w w' := by
  obtain ⟨hlt, _, hmt⟩ := hnx
  have hk := hmt pre.length (by rw [List.length_take]; omega)
  have e1 : (pre ++ [x]).getD pre.length (0, ⟨#[]⟩, (none, 0, 0), 0) = x := by simp [List.getD]
  have e2 : ((X.tokens l).1.take (pre.length + 1)).getD pre.length (0, 0, 0) = (X.tokens l).1.getD pre.length (0, 0, 0) := by simp [List.getD]
  rw [e1, e2] at hk
  obtain ⟨k1, k2, k3⟩ := hk
  rw [X.tks_get _ _ _ hlt] at hb ⊢
  dsimp only at hb ⊢
  have hT : x.2.1 = ⟨((l.drop ((X.tokens l).1.getD pre.length (0, 0, 0)).2.1).take ((X.tokens l).1.getD pre.length (0, 0, 0)).2.2).toArray⟩ := by
    apply ByteArray.ext
    apply Array.toList_inj.1
    rw [k2]
  have hlen := hm.len
  have hs := hm.sl
  rw [k2] at hs hlen
  rw [← k1] at hb ⊢
  rw [← hT, ← k3]
  have hml := hs.len
  have hml2 := hb.len
  obtain ⟨M, hM⟩ : ∃ M, x.2.2.1.2.1 = M := ⟨_, rfl⟩
  rw [hM] at hs hml ⊢
  obtain rfl : m = M := by rw [← hml, ← hml2]
  exact is_l3 x.1 x.2.2.2 x.2.1 hs hb (by rw [← hml]; exact hlen)
end Go.Proofs.YtkioaogpmifgeaaDoor
