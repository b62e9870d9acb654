/-
  riddlelaw22.StoreNames: the law where what it reads is of bulk at most 1048576.
-/
import Derived.Test.YtmncamnlmpajbaaSOpen
import Derived.Test.YtmncamnlmpajbaaSNamesW
import Derived.WalkKit
import Derived.JoinedCond
namespace Go.Proofs.Ytmncamnlmpajbaa.storeNames
open Go.ChangeShapes Go.ChangeMaps Go.WideShapes Go.ChangeAt Go.RowKit

section
variable {H : Type} {enc : TypeId × Value → H} {W : World}
set_option maxRecDepth 100000 in
theorem open_kint {base : Nat} {v : Value} {d : DataW H} {p : List MemPlace} (hval : Value.okWide Try.prog W .any base 3 v) (h : DataW.Trod enc Try.prog W 0 (fun _ => true) true 3 v d p) :
    (∃ n : Int, v = .int .i64 n ∧ -9223372036854775808 ≤ n ∧ n < 9223372036854775808) ∧ ∀ W', Below W.heap.size W W' → DataW.Trod enc Try.prog W' 0 (fun b => decide (b < W.heap.size)) true 3 v d p := by
  obtain ⟨n, rfl, rfl, rfl, hw⟩ := open_int Try.underlying3 hval h
  refine ⟨?_, fun W' _ => shut_int Try.underlying3 hw⟩
  have hb := bounds_i64 hw
  exact ⟨n, rfl, by omega, by omega⟩
end

set_option maxRecDepth 100000 in
set_option maxHeartbeats 1000000 in
/-- What the walk gives. -/
theorem contract (H : Type) (enc : TypeId × Value → H) (W : World) (base : Nat) (args : Array Value) (ds gs : List (DataW H)) (before : List MemPlace)
    (hval : ∀ (j : Nat) t v, Try.f4.params[j]? = some t → args[j]? = some v → Value.okWide Try.prog W .any base t v)
    (hW : DataW.Whole enc Try.prog Try.f4.params.toList Rows.storeNamesSpec.vars false W args.toList ds gs before) (hk : Rows.uptoSmall H (ds ++ gs) = true) :
    Calls Try.prog 4 args W fun e W' => ∃ v, e = .returned v ∧ Rows.storeNamesSpec.post enc Try.prog Try.f4 false true false false W args v W' := by
  have hW' := hW
  have hlt := hW.lt
  obtain ⟨p, q, hA0, hV, rfl, hfz, hnd⟩ := hW
  have hA : DataW.TrodAll enc Try.prog W 0 (fun _ => true) true Try.f4.params.toList args.toList ds p := hA0
  rw [Try.params4] at hA hval
  obtain ⟨v0, vs0, d0, ds0, p0, q0, hargs, rfl, rfl, h0, r0⟩ := trodAll_cons hA
  obtain ⟨v1, vs1, d1, ds1, p1, q1, rfl, rfl, rfl, h1, r1⟩ := trodAll_cons r0
  obtain ⟨rfl, rfl, rfl⟩ := trodAll_nil r1
  obtain rfl : args = #[v0, v1] := by cases args; simp_all
  obtain ⟨rfl, rfl⟩ := trodVars_none hV
  clear hA0 hV hfz hnd
  have hk := of_decide_eq_true hk
  simp only [List.append_nil, Rows.uptoBulkAll] at hk
  simp only [List.append_nil] at hW' hlt
  obtain ⟨⟨xs0, i0⟩, t0⟩ := open_steps (hval 0 22 v0 rfl rfl) h0 (fun x hx => hlt x (by simp [hx])) (by omega)
  obtain ⟨⟨n1, rfl, _⟩, t1⟩ := open_kint (hval 1 3 v1 rfl rfl) h1
  refine (names_walk W v0 xs0 i0 n1).mono fun e W' ⟨he, hb⟩ => ?_
  subst he
  exact ⟨_, rfl, _, _, _, [], _, [], hW', trodAll_cons_mk (shut_bool Try.underlying4 _) trodAll_mk0, (trodAll_cons_mk (t0 W' hb) (trodAll_cons_mk (t1 W' hb) (trodAll_mk0))), rfl, hb.frame _, fun h => by cases h⟩

set_option maxRecDepth 100000 in
theorem lifted (os : Os) (started : os.Started) (H : Type) (enc : TypeId × Value → H) (F : Stop.Interp) :
    ReturnsInHanded {} Try.checked os 4 .any ((Rows.OpenSpec.upto Rows.storeNamesSpec).pre6 enc Try.prog Try.f4 Rows.storeNamesUptoRow.domain false) (((Rows.OpenSpec.upto Rows.storeNamesSpec).at F).post enc Try.prog Try.f4 false true false false) := by
  refine returnsInHanded_of_cond (C := Try.checked) (s := Rows.OpenSpec.upto Rows.storeNamesSpec) (k := Rows.uptoSmall) rfl own started (by kernel_rfl) Try.func4
    (OpenSpec.witness (enc := enc) (C := Try.checked) (s := Rows.OpenSpec.upto Rows.storeNamesSpec) (k := Rows.uptoSmall) rfl false ⟨#[], #[Value.slice none 0 0, Value.int .i64 0], []⟩ 8 (by kernel_rfl) (by kernel_rfl) (by kernel_rfl)
      (x := ([.nil, .lit (.int .i64 0)], [], [])) (by kernel_rfl) rfl (by kernel_rfl)) ?_
  intro W base args ds gs before hval hW _ hk _
  exact contract H enc W base args ds gs before hval hW hk

theorem said : Rows.StoreNamesUptoSaid :=
  OpenClaim.holds_of_cond 4 Try.f4 rfl rfl rfl rfl rfl rfl rfl ⟨rfl, rfl, rfl, rfl, rfl⟩ rfl rfl rfl rfl rfl (by kernel_rfl) Try.func4 (by kernel_rfl)
    (of_decide_eq_true (by kernel_rfl)) (by unfold Func.isWrapper; first | (rw [if_pos (by decide +kernel)]; kernel_rfl) | (rw [if_neg (by decide +kernel)]; exact ⟨rfl, rfl⟩))
    (fun os started H enc _ F => lifted os started H enc F)
#print axioms said
end Go.Proofs.Ytmncamnlmpajbaa.storeNames
