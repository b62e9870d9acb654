/-
  riddlelaw22.known: contract.
-/
import Derived.Test.YtmncamnlmpajbaaSOps
import Derived.Test.YtmncamnlmpajbaaSLNames
namespace Go.Proofs.Ytmncamnlmpajbaa
open Go.RowKit Go.Maps

set_option maxRecDepth 100000 in
theorem func_neq (f : Fn) (a b : Array Value) (w : World) : (binOp .neq 45 (.func f a b) .nilFunc).run Try.prog w = .ok (.bool true) w := by
  rfl
set_option maxRecDepth 100000 in
set_option maxHeartbeats 4000000 in
set_option maxRecDepth 100000 in
set_option maxHeartbeats 1600000 in
theorem known_l (w : World) : Calls Try.prog 9 #[] w fun e w' => e = .returned (.bool true) ∧ Below w.heap.size w w' := by
  obtain ⟨h1, h2, h3, h4, h5, h6, h7, h8⟩ := tT_put
  go_enter Try.func9, Try.ntmps9
  go_upto_region 4 with (go_at_call 7; refine (new_s _).mono ?_; rintro e w1 ⟨P, M, rfl, hst, hP, hM, hP2, hM2, hb1⟩)
  have hs1 := hst (fun b => w1.heap.size ≤ b) (by omega) (by omega)
  clear hst
  have HS := Lib.hid hs1
  clear hs1
  have HP1 : Hid (Calls Try.prog 20 #[.pointer (some ⟨P, 0, none⟩), .string ⟨#[102]⟩, tv 7 ⟨#[]⟩ none 0 0 false none 0 0 none 0 0] w1 fun e w' => e = .returned (.int .i64 0) ∧ StoreAt w' P M (fun b => w1.heap.size ≤ b) [(⟨#[102]⟩, tT)] ∧ Tur w1 w' P M) := Lib.hid (by
    have := put_s HS.out ⟨#[102]⟩ (by decide) tT _ (fun _ => False) (by decide) (tT_in _ _) (fun b h => h)
    rw [h1, h2] at this
    exact this)
  go_upto_region 5 with (go_at_call 20; refine HP1.out.mono ?_; rintro e w2 ⟨rfl, hs2, ht2⟩)
  have HG : Hid (Calls Try.prog 19 #[.pointer (some ⟨P, 0, none⟩), .string ⟨#[102]⟩] w2 fun e w' => ∃ A1 c1 A2 c2 A3 c3, e = .returned (.tuple #[tv 7 ⟨#[]⟩ A1 0 c1 false A2 0 c2 A3 0 c3, .bool true]) ∧ Below w2.heap.size w2 w') := Lib.hid (by
    have := get_s hs2 ⟨#[102]⟩ (by decide)
    rw [h4, h5] at this
    refine this.mono ?_
    rintro e w' ⟨A1, c1, A2, c2, A3, c3, rfl, _, hb⟩
    exact ⟨A1, c1, A2, c2, A3, c3, rfl, hb⟩)
  have HS2 := Lib.hid hs2
  clear hs2
  go_upto_region 6 with (go_at_call 19; refine HG.out.mono ?_; rintro e w3 ⟨A1, c1, A2, c2, A3, c3, rfl, hb3⟩)
  obtain ⟨W4, hW4, pt, hb4⟩ := made_blk w3 #[.int .i64 7, .string ⟨#[]⟩, .slice A1 0 c1, .bool false, .slice A2 0 c2, .slice A3 0 c3] 35
  obtain ⟨Bt, hBt⟩ : ∃ b, b = w3.heap.size := ⟨_, rfl⟩
  rw [← hW4, ← hBt]
  rw [← hBt] at pt
  have hb5 := below_on hb3 hb4
  have HS4 := Lib.hid (HS2.out.below hb5)
  have ht4 := ht2.below hb5
  have hgp := pt.lt
  have hBP : Bt ≠ P ∧ Bt ≠ M := by have := ht2.size; have := hb3.size; omega
  clear hW4 hBt hb3 hb4 ht2
  have HN : Hid (Calls Try.prog 12 #[.pointer (some ⟨P, 0, none⟩)] W4 fun e w' => e = .returned (.int .i64 1) ∧ w' = W4) := Lib.hid (by
    have := nodes_s HS4.out
    rw [h3] at this
    exact this)
  have HD : Hid (Calls Try.prog 23 #[.pointer (some ⟨P, 0, none⟩), .string ⟨#[102]⟩] W4 fun e w' => e = .returned (.int .i64 0) ∧ StoreAt w' P M (fun b => w1.heap.size ≤ b) [] ∧ Tur W4 w' P M) := Lib.hid (by
    have := drop_s HS4.out ⟨#[102]⟩ (by decide)
    rw [h6, h7] at this
    exact this)
  go_upto_region 8 with (first
    | (go_at_call 12; refine HN.out.mono ?_; rintro e w5 ⟨rfl, rfl⟩)
    | (go_at_call 23; refine HD.out.mono ?_; rintro e w6 ⟨rfl, hs6, ht6⟩))
  have pt6 : Blk w6 Bt _ _ := (ht6.block Bt hgp hBP.1 hBP.2).trans pt
  have x0 := pt6.six.1
  have ht7 := ht4.trans ht6
  have HS6 := Lib.hid hs6
  have HL : Hid (Calls Try.prog 11 #[.pointer (some ⟨P, 0, none⟩)] w6 fun e w' => e = .returned (.int .i64 0) ∧ w' = w6) := Lib.hid (len_s HS6.out)
  have HDD : Hid (∀ w', Below w6.heap.size w6 w' → Calls Try.prog 23 #[.pointer (some ⟨P, 0, none⟩), .string ⟨#[102]⟩] w' fun e w'' => e = .returned (.int .i64 221) ∧ StoreAt w'' P M (fun b => w1.heap.size ≤ b) (ldel ⟨#[102]⟩ []) ∧ Tur w' w'' P M) := Lib.hid (fun w' hb => by
    have := drop_s (HS6.out.below hb) ⟨#[102]⟩ (by decide)
    rw [h8] at this
    exact this)
  clear hs6 ht6 ht4 pt h1 h2 h3 h4 h5 h6 h7 h8
  go_wp2_with (first
    | (go_at_call 11; refine HL.out.mono ?_; rintro e w7 ⟨rfl, rfl⟩)
    | (go_at_call 15; refine (names_x _ _).mono ?_; rintro e w8 ⟨rfl, rfl⟩; have hfn := func_neq (.func 30) #[] #[.pointer (some ⟨w7.heap.size, 0, none⟩)] (w7.alloc (.cells #[.pointer (some ⟨P, 0, none⟩)] 23)))
    | (go_at_call 23; refine (HDD.out _ (below_alloc1 _ _)).mono ?_; rintro e w9 ⟨rfl, _, ht9⟩))
  go_ret
  have hsz := hb1.size
  refine ⟨rfl, ?_⟩
  have hT := (ht7.below (below_alloc1 _ _)).trans ht9
  exact ⟨hT.os.trans hb1.os, hT.tape.trans hb1.tape, hT.output.trans hb1.output, Nat.le_trans hsz hT.size, fun b hlt => (hT.block b (by omega) (by omega) (by omega)).trans (hb1.block b hlt)⟩
end Go.Proofs.Ytmncamnlmpajbaa
