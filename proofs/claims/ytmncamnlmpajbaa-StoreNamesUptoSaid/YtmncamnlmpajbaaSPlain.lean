/-
  The store's list: plain laws for StoreStays; steps in memory.
-/
import Derived.Test.YtmncamnlmpajbaaSKnown
namespace Go.Proofs.Ytmncamnlmpajbaa
open Go.RowKit Go.Maps Go.Op

theorem nrm_nrm (l : List Nat) : nrm (nrm l) = nrm l := by unfold nrm; rw [N.nv_ofN]
theorem nrmS_nrm (s : Bool) (l : List Nat) : nrmS (nrmS s l) (nrm l) = nrmS s l := by
  unfold nrmS nrm
  rw [N.nv_ofN]
  cases s <;> simp
mutual
theorem T.cp_cp : ∀ (t : T), t.cp.cp = t.cp
  | .node k nm ns ng mg ks => by simp only [T.cp]; rw [nrmS_nrm, nrm_nrm, T.cps_cps ks]
theorem T.cps_cps : ∀ (l : List T), T.cps (T.cps l) = T.cps l
  | [] => rfl
  | t :: r => by simp only [T.cps]; rw [T.cp_cp t, T.cps_cps r]
end
theorem lget_lput {nm : ByteArray} {t : T} {L : Kl} (h : Rising L) : lget nm (lput nm t L) = some t :=
  lget_of_mem (lput_rising nm t L h) ((lput_perm nm t L h).mem_iff.2 List.mem_cons_self)
theorem lget_ldel (nm : ByteArray) : ∀ (L : Kl), lget nm (ldel nm L) = none
  | [] => rfl
  | (a, u) :: r => by
    have ih := lget_ldel nm r
    by_cases h : a = nm
    · have : ldel nm ((a, u) :: r) = ldel nm r := by simp [ldel, h]
      rw [this, ih]
    · have : ldel nm ((a, u) :: r) = (a, u) :: ldel nm r := by simp [ldel, h]
      rw [this]
      unfold lget
      rw [if_neg h, ih]
theorem gt_put {nm : ByteArray} {t : T} {L : Kl} (h : Rising L) (he : putE nm t L = 0) : gt nm (putL nm t L) = t.cp ∧ (lget nm (putL nm t L)).isSome = true := by
  have e : putL nm t L = lput nm t.cp L := by unfold putL; rw [if_pos he]
  unfold gt
  rw [e, lget_lput h]
  exact ⟨T.cp_cp t, rfl⟩
theorem putL_no {nm : ByteArray} {t : T} {L : Kl} (he : putE nm t L ≠ 0) : putL nm t L = L := by unfold putL; rw [if_neg he]
theorem StoreAt.rising {w : World} {P M : Nat} {R : Nat → Prop} {L : Kl} (h : StoreAt w P M R L) : Rising L := by
  obtain ⟨_, _, ⟨D, _, hr⟩, _⟩ := h
  exact hr.1
def kd : ByteArray × T := (⟨#[]⟩, t0)
theorem gt_at {L : Kl} (h : Rising L) {k : Nat} (hk : k < L.length) : gt ((lnames L).getD k ⟨#[]⟩) L = (L.getD k kd).2.cp := by
  have e : (lnames L).getD k ⟨#[]⟩ = (L.getD k kd).1 := by simp [lnames, List.getD, hk]
  have hm : L.getD k kd ∈ L := by simp [List.getD, hk]
  rw [e]
  obtain ⟨⟨a, u⟩, hp⟩ : ∃ p, L.getD k kd = p := ⟨_, rfl⟩
  rw [hp] at hm ⊢
  unfold gt
  rw [lget_of_mem h hm]
theorem total_take {L : Kl} {k : Nat} (hk : k < L.length) : total (L.take (k + 1)) = total (L.take k) + sz (L.getD k kd).2 := by
  rw [take_snoc _ kd _ hk]
  simp [total]
theorem total_take_le (L : Kl) (k : Nat) : total (L.take k) ≤ total L := by
  have := total_perm (L := L) (L' := L.take k ++ L.drop k) (by rw [List.take_append_drop])
  rw [this]
  unfold total
  rw [List.map_append, List.sum_append]
  exact Nat.le_add_right _ _
theorem less_iff : ∀ (x y : List UInt8), bytesLess x y = decide (x < y)
  | [], [] => by simp [bytesLess]
  | _ :: _, [] => by simp [bytesLess]
  | [], _ :: _ => by simp [bytesLess]
  | a :: x, b :: y => by
    unfold bytesLess
    rw [less_iff x y]
    by_cases h1 : a < b
    · simp [h1, List.cons_lt_cons_iff]
    · by_cases h2 : a = b
      · subst h2; simp
      · simp [h1, h2, List.cons_lt_cons_iff]
theorem less_true {a b : ByteArray} (h : a.data.toList < b.data.toList) : bytesLess a.toList b.toList = true := by
  rw [less_iff, ByteArray.toList_eq, ByteArray.toList_eq]
  exact decide_eq_true h
theorem names_lt {L : Kl} (h : Rising L) {k : Nat} (hk : k + 1 < L.length) : ((lnames L).getD k ⟨#[]⟩).data.toList < ((lnames L).getD (k + 1) ⟨#[]⟩).data.toList := by
  have e0 : (lnames L).getD k ⟨#[]⟩ = (L[k]'(by omega)).1 := by simp [lnames, List.getD, show k < L.length by omega]
  have e1 : (lnames L).getD (k + 1) ⟨#[]⟩ = (L[k + 1]'hk).1 := by simp [lnames, List.getD, hk]
  rw [e0, e1]
  exact List.pairwise_iff_getElem.1 h k (k + 1) (by omega) hk (by omega)
/-- A step in memory: kind, name, tree. -/
abbrev Stp := Int × ByteArray × T
def stp0 : Stp := (0, ⟨#[]⟩, t0)
def StepAt (w : World) (R : Nat → Prop) (b o : Nat) (x : Stp) : Prop := w.cell? ⟨b, o, none⟩ = some (.int .i64 x.1) ∧ w.cell? ⟨b, o + 1, none⟩ = some (.string x.2.1) ∧ KidAt w R b (o + 2) x.2.2 ∧ x.2.1.size ≤ 1048576 ∧ x.2.2.bulk ≤ 1048576
def StepsIn (w : World) (v : Value) (xs : List Stp) : Prop := ∃ A c, v = .slice A xs.length c ∧ xs.length ≤ c ∧ xs.length ≤ 1048576 ∧ (0 < xs.length → ∃ b o, A = some ⟨b, o, none⟩ ∧ ∀ i, i < xs.length → StepAt w (fun b => b < w.heap.size) b (o + i * 8) (xs.getD i stp0))
end Go.Proofs.Ytmncamnlmpajbaa
