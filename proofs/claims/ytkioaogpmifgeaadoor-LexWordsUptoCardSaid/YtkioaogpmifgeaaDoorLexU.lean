/-
  riddlelaw03.pick, gap, LexBlanks' closure: contracts.
-/
import Derived.Test.YtkioaogpmifgeaaDoorLexGlue
namespace Go.Proofs.YtkioaogpmifgeaaDoor
open Go.RowKit

/-- What a number may be, so that its kind is the int of the machine. -/
def I64 (z : Int) : Prop := -9223372036854775808 ≤ z ∧ z < 9223372036854775808
theorem pick_l (w : World) (z : Int) (hz : I64 z) :
    Calls Tryd.prog 15 #[.int .i64 z, .int .i64 6] w fun e w' => ∃ r : Nat, e = .returned (.int .i64 (r : Nat)) ∧ r < 6 ∧ w = w' := by
  obtain ⟨h1, h2⟩ := hz
  by_cases h0 : z < 0
  · have d1 : decide (z < 0) = true := decide_eq_true h0
    obtain ⟨q, hq⟩ : ∃ q : Nat, -(z + 1) = (q : Int) := ⟨(-(z + 1)).toNat, by omega⟩
    go_enter Tryd.func15, Tryd.ntmps15
    go_wp2_with fail
    go_ret
    exact ⟨q % 6, by rw [show ((q % 6 : Nat) : Int) = (q : Int) % 6 by omega]; rfl, by omega, rfl⟩
  · obtain ⟨q, rfl⟩ : ∃ q : Nat, z = (q : Int) := ⟨z.toNat, by omega⟩
    have d1 : decide ((q : Int) < 0) = false := decide_eq_false h0
    go_enter Tryd.func15, Tryd.ntmps15
    go_wp2_with fail
    go_ret
    exact ⟨q % 6, by rw [show ((q % 6 : Nat) : Int) = (q : Int) % 6 by omega]; rfl, by omega, rfl⟩
theorem gap_cell {w : World} {b : Nat} {t : TypeId} (h : Blk w b t #[.string ⟨#[32]⟩, .string ⟨#[9]⟩, .string ⟨#[10]⟩, .string ⟨#[13]⟩, .string ⟨#[32, 32]⟩, .string ⟨#[32, 13, 10]⟩]) {r : Nat} (hr : r < 6) : ∃ G : ByteArray, w.cell? ⟨b, r, none⟩ = some (.string G) ∧ X.okGap G.data.toList ∧ G.size ≤ 3 := by
  rcases (show r = 0 ∨ r = 1 ∨ r = 2 ∨ r = 3 ∨ r = 4 ∨ r = 5 by omega) with rfl | rfl | rfl | rfl | rfl | rfl
  all_goals exact ⟨_, h.cell _, ⟨by decide, by decide⟩, by decide⟩
set_option maxRecDepth 100000 in
theorem gap_l (w : World) (z : Int) (hz : I64 z) :
    Calls Tryd.prog 21 #[.int .i64 z] w fun e w' => ∃ G : ByteArray, e = .returned (.string G) ∧ X.okGap G.data.toList ∧ G.size ≤ 3 ∧ Below w.heap.size w w' := by
  go_enter Tryd.func21, Tryd.ntmps21
  go_upto_region 2 with (fail)
  obtain ⟨W, hW, p0, hbw⟩ : ∃ W : World, W = w.alloc (.cells #[.string ⟨#[32]⟩, .string ⟨#[9]⟩, .string ⟨#[10]⟩, .string ⟨#[13]⟩, .string ⟨#[32, 32]⟩, .string ⟨#[32, 13, 10]⟩] 9) ∧ Blk W w.heap.size 9 #[.string ⟨#[32]⟩, .string ⟨#[9]⟩, .string ⟨#[10]⟩, .string ⟨#[13]⟩, .string ⟨#[32, 32]⟩, .string ⟨#[32, 13, 10]⟩] ∧ Below w.heap.size w W := ⟨_, rfl, Blk.new _ _ _, below_alloc1 _ _⟩
  rw [← hW]
  clear hW
  go_wp2_with (go_at_call 15; refine (pick_l _ z hz).mono ?_; rintro e w2 ⟨r, rfl, hr, rfl⟩; obtain ⟨G, hG, hok, hgs⟩ := gap_cell p0 hr)
  go_ret
  exact ⟨G, rfl, hok, hgs, hbw⟩
/-- A list of machine ints. -/
def ArrJ (w : World) (A : Option Addr) (n : Nat) : Prop := 0 < n → ∃ b o, A = some ⟨b, o, none⟩ ∧ ∀ j, j < n → ∃ z, w.cell? ⟨b, o + j, none⟩ = some (.int .i64 z) ∧ I64 z
theorem ArrJ.below {w w' : World} {A : Option Addr} {n : Nat} (h : ArrJ w A n) (hb : Below w.heap.size w w') : ArrJ w' A n := fun hn => by
  obtain ⟨b, o, e, hc⟩ := h hn
  refine ⟨b, o, e, fun j hj => ?_⟩
  obtain ⟨z, h1, h2⟩ := hc j hj
  exact ⟨z, keep_cell h1 hb, h2⟩
set_option maxRecDepth 100000 in
set_option maxHeartbeats 1600000 in
theorem at_c {w : World} {Bg : Nat} {A : Option Addr} {n c : Nat} (hB : Blk w Bg 48 #[.slice A n c]) (hA : ArrJ w A n) (hn : n ≤ 9223372036854775807) (i : Nat) (hi : i ≤ 9223372036854775806) :
    Calls Tryd.prog 20 #[.int .i64 (i : Nat), .pointer (some ⟨Bg, 0, none⟩)] w fun e w' => ∃ G : ByteArray, e = .returned (.string G) ∧ X.okGap G.data.toList ∧ G.size ≤ 3 ∧ Below w.heap.size w w' := by
  have cB := hB.cell 0
  simp only [List.getElem?_toArray, List.getElem?_cons_zero] at cB
  by_cases h0 : n = 0
  · subst h0
    go_enter Tryd.func20, Tryd.ntmps20
    go_wp2_with fail
    go_ret
    exact ⟨_, rfl, ⟨by decide, by decide⟩, by decide, Below.refl _ _⟩
  · obtain ⟨b, o, rfl, hc⟩ := hA (by omega)
    obtain ⟨z, hz, hzr⟩ := hc (i % n) (Nat.mod_lt _ (by omega))
    have d0 : ((n : Int) == 0) = false := by simp; omega
    have hni : (0 : Int) < n := by omega
    obtain ⟨q, hq, hql⟩ : ∃ q : Nat, (i : Int) % (n : Int) = (q : Int) ∧ q = i % n := ⟨i % n, by omega, rfl⟩
    have hq2 : (i : Int).tmod (n : Int) = (q : Int) := by rw [Int.tmod_eq_emod_of_nonneg (by omega)]; exact hq
    rw [← hql] at hz
    have hqn : q < n := by rw [hql]; exact Nat.mod_lt _ (by omega)
    have hqi : (q : Int) < n := by omega
    have hii : (0 : Int) ≤ i := by omega
    have hS0 : ∀ w', Below w.heap.size w w' → (fun w' => (w'.cell? ⟨Bg, 0, none⟩ = some (.slice (some ⟨b, o, none⟩) n c) ∧ w'.cell? ⟨b, o + q, none⟩ = some (.int .i64 z)) ∧ Below w.heap.size w w') w' := fun w' h => ⟨⟨keep_cell cB h, keep_cell hz h⟩, h⟩
    have HS0 := Lib.hid hS0
    have hS : Below w.heap.size w w := Below.refl _ _
    clear hS0 hz hc hql
    go_enter Tryd.func20, Tryd.ntmps20
    go_upto_region 3 with (fail)
    clear cB
    go_region_held3 (fun w' => (w'.cell? ⟨Bg, 0, none⟩ = some (.slice (some ⟨b, o, none⟩) n c) ∧ w'.cell? ⟨b, o + q, none⟩ = some (.int .i64 z)) ∧ Below w.heap.size w w')
      (first | exact HS0.out _ (by with_reducible assumption) | exact HS0.out _ (Below.drew (by with_reducible assumption)))
      (first
        | (go_at_call 21; refine (gap_l _ z hzr).mono ?_; rintro e wn ⟨G, rfl, hok, hgs, hb⟩; have hS2 := below_on (s_below (by with_reducible assumption)) hb; clear hS; have hS := hS2; clear hS2 hb))
    go_wp2_with fail
    go_ret
    exact ⟨G, rfl, hok, hgs, hS⟩
end Go.Proofs.YtkioaogpmifgeaaDoor
