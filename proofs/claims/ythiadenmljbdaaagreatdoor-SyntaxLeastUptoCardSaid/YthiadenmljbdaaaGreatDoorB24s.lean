/-
  s: the parts WForm YMay of the proof.
-/
import Derived.Test.YthiadenmljbdaaaGreatDoorB22s
import Derived.Test.YthiadenmljbdaaaGreatDoorB23s
import Derived.Test.YthiadenmljbdaaaGreatDoorB10s
import Derived.Deep.CutRange
section
namespace Go.Proofs.YthiadenmljbdaaaGreatDoor
open Go.RowKit
open Go.Shelf
theorem form_plain (t : T) (hl : 5 ≤ P.level t.k) (hb : P.binds t.k = false) (hw : BodyW t) : FormW t := by
  intro B b bs least last w R v hle h hR hIs hlen hBw
  have hc : ¬ (P.level t.k < least ∨ (P.binds t.k = true ∧ last = false)) := by
    rintro (h1 | h1)
    · omega
    · rw [hb] at h1; exact absurd h1.1 (by decide)
  rw [formB_body hc] at hlen ⊢
  exact hw B b bs least last w R v hle hc h hR hIs hlen hBw
theorem bulk_mem : ∀ {l : List T} {k : T}, k ∈ l → k.bulk ≤ T.bulks l
  | [], _, h => by cases h
  | t :: r, k, h => by
    rw [T.bulks]
    rcases List.mem_cons.1 h with rfl | h
    · omega
    · have := bulk_mem h
      omega
theorem form_17 (t : T) (hk : t.k = 17) (hw : BodyW t) : FormW t := by
  intro B b bs least last w R v hle h hR hIs hlen hBw
  by_cases hc : P.level t.k < least ∨ (P.binds t.k = true ∧ last = false)
  · rw [formB_par hc] at hlen ⊢
    simp only [List.length_append, List.length_cons, List.length_nil] at hlen
    have e : bs ++ Lib.byteCells (40 :: (bodyB true t ++ [41])) = ((bs ++ [Value.int .u8 40]) ++ Lib.byteCells (bodyB true t)) ++ [Value.int .u8 41] := by simp [Lib.byteCells]
    rw [e]
    have hl : 4 < least := by
      rcases hc with hc | hc
      · rw [hk] at hc; exact hc
      · rw [hk] at hc; exact absurd hc.1 (by decide)
    exact form_par_17 t hk hw B b bs least hl last w R v h hR hIs (by omega) hBw
  · rw [formB_body hc] at hlen ⊢
    exact hw B b bs least last w R v hle hc h hR hIs hlen hBw
theorem form_18 (t : T) (hk : t.k = 18) (hw : BodyW t) : FormW t := by
  intro B b bs least last w R v hle h hR hIs hlen hBw
  by_cases hc : P.level t.k < least ∨ (P.binds t.k = true ∧ last = false)
  · rw [formB_par hc] at hlen ⊢
    simp only [List.length_append, List.length_cons, List.length_nil] at hlen
    have e : bs ++ Lib.byteCells (40 :: (bodyB true t ++ [41])) = ((bs ++ [Value.int .u8 40]) ++ Lib.byteCells (bodyB true t)) ++ [Value.int .u8 41] := by simp [Lib.byteCells]
    rw [e]
    have hl : 3 < least := by
      rcases hc with hc | hc
      · rw [hk] at hc; exact hc
      · rw [hk] at hc; exact absurd hc.1 (by decide)
    exact form_par_18 t hk hw B b bs least hl last w R v h hR hIs (by omega) hBw
  · rw [formB_body hc] at hlen ⊢
    exact hw B b bs least last w R v hle hc h hR hIs hlen hBw
theorem form_19 (t : T) (hk : t.k = 19) (hw : BodyW t) : FormW t := by
  intro B b bs least last w R v hle h hR hIs hlen hBw
  by_cases hc : P.level t.k < least ∨ (P.binds t.k = true ∧ last = false)
  · rw [formB_par hc] at hlen ⊢
    simp only [List.length_append, List.length_cons, List.length_nil] at hlen
    have e : bs ++ Lib.byteCells (40 :: (bodyB true t ++ [41])) = ((bs ++ [Value.int .u8 40]) ++ Lib.byteCells (bodyB true t)) ++ [Value.int .u8 41] := by simp [Lib.byteCells]
    rw [e]
    have hl : 2 < least := by
      rcases hc with hc | hc
      · rw [hk] at hc; exact hc
      · rw [hk] at hc; exact absurd hc.1 (by decide)
    exact form_par_19 t hk hw B b bs least hl last w R v h hR hIs (by omega) hBw
  · rw [formB_body hc] at hlen ⊢
    exact hw B b bs least last w R v hle hc h hR hIs hlen hBw
theorem form_20 (t : T) (hk : t.k = 20) (hw : BodyW t) : FormW t := by
  intro B b bs least last w R v hle h hR hIs hlen hBw
  by_cases hc : P.level t.k < least ∨ (P.binds t.k = true ∧ last = false)
  · rw [formB_par hc] at hlen ⊢
    simp only [List.length_append, List.length_cons, List.length_nil] at hlen
    have e : bs ++ Lib.byteCells (40 :: (bodyB true t ++ [41])) = ((bs ++ [Value.int .u8 40]) ++ Lib.byteCells (bodyB true t)) ++ [Value.int .u8 41] := by simp [Lib.byteCells]
    rw [e]
    have hl : 1 < least := by
      rcases hc with hc | hc
      · rw [hk] at hc; exact hc
      · rw [hk] at hc; exact absurd hc.1 (by decide)
    exact form_par_20 t hk hw B b bs least hl last w R v h hR hIs (by omega) hBw
  · rw [formB_body hc] at hlen ⊢
    exact hw B b bs least last w R v hle hc h hR hIs hlen hBw
theorem form_21 (t : T) (hk : t.k = 21) (hw : BodyW t) : FormW t := by
  intro B b bs least last w R v hle h hR hIs hlen hBw
  by_cases hc : P.level t.k < least ∨ (P.binds t.k = true ∧ last = false)
  · rw [formB_par hc] at hlen ⊢
    simp only [List.length_append, List.length_cons, List.length_nil] at hlen
    have e : bs ++ Lib.byteCells (40 :: (bodyB true t ++ [41])) = ((bs ++ [Value.int .u8 40]) ++ Lib.byteCells (bodyB true t)) ++ [Value.int .u8 41] := by simp [Lib.byteCells]
    rw [e]
    have hl : last = false := by
      rcases hc with hc | hc
      · rw [hk] at hc; have : P.level 21 = 5 := rfl; omega
      · exact hc.2
    subst hl
    exact form_par_21 t hk hw B b bs least hle w R v h hR hIs (by omega) hBw
  · rw [formB_body hc] at hlen ⊢
    exact hw B b bs least last w R v hle hc h hR hIs hlen hBw
theorem form_22 (t : T) (hk : t.k = 22) (hw : BodyW t) : FormW t := by
  intro B b bs least last w R v hle h hR hIs hlen hBw
  by_cases hc : P.level t.k < least ∨ (P.binds t.k = true ∧ last = false)
  · rw [formB_par hc] at hlen ⊢
    simp only [List.length_append, List.length_cons, List.length_nil] at hlen
    have e : bs ++ Lib.byteCells (40 :: (bodyB true t ++ [41])) = ((bs ++ [Value.int .u8 40]) ++ Lib.byteCells (bodyB true t)) ++ [Value.int .u8 41] := by simp [Lib.byteCells]
    rw [e]
    have hl : last = false := by
      rcases hc with hc | hc
      · rw [hk] at hc; have : P.level 22 = 5 := rfl; omega
      · exact hc.2
    subst hl
    exact form_par_22 t hk hw B b bs least hle w R v h hR hIs (by omega) hBw
  · rw [formB_body hc] at hlen ⊢
    exact hw B b bs least last w R v hle hc h hR hIs hlen hBw
theorem form_all {b : Bool} {t : T} (h : P.Wf b t) : b = true → t.bulk ≤ 1048576 → FormW t := by
  induction h with
  | num m hm => intro h; cases h
  | var s hs => intro h; cases h
  | neg t ht ih => intro h; cases h
  | add t u ht hu iht ihu => intro h; cases h
  | sub t u ht hu iht ihu => intro h; cases h
  | mul m hm t ht ih => intro h; cases h
  | tt => exact fun _ _ => form_plain _ (by decide) rfl (body_7 _ rfl atom_true (fun _ => rfl))
  | ff => exact fun _ _ => form_plain _ (by decide) rfl (body_8 _ rfl atom_false (fun _ => rfl))
  | cmp k hk t u ht hu iht ihu =>
    intro _ hbk
    have hb : t.bulk ≤ 1048576 ∧ u.bulk ≤ 1048576 := by rw [P.nd, P.bulk_no, P.bulks_cons, P.bulks_one] at hbk; omega
    have ha := atom_cmp k hk t u (term_all ht rfl hb.1) (term_all hu rfl hb.2)
    have hl : ∀ last, bodyB last (P.nd k [t, u]) = atomB (P.nd k [t, u]) := fun last => by
      unfold bodyB atomB
      rw [P.body_cmp hk, P.body_cmp hk]
    have : k = 9 ∨ k = 10 ∨ k = 11 ∨ k = 12 ∨ k = 13 ∨ k = 14 := by omega
    rcases this with rfl | rfl | rfl | rfl | rfl | rfl
    · exact form_plain _ (show 5 ≤ 6 by decide) rfl (body_9 _ rfl ha hl)
    · exact form_plain _ (show 5 ≤ 6 by decide) rfl (body_10 _ rfl ha hl)
    · exact form_plain _ (show 5 ≤ 6 by decide) rfl (body_11 _ rfl ha hl)
    · exact form_plain _ (show 5 ≤ 6 by decide) rfl (body_12 _ rfl ha hl)
    · exact form_plain _ (show 5 ≤ 6 by decide) rfl (body_13 _ rfl ha hl)
    · exact form_plain _ (show 5 ≤ 6 by decide) rfl (body_14 _ rfl ha hl)
  | div m hm h0 t ht ih =>
    intro _ hbk
    have hb : t.bulk ≤ 1048576 ∧ m.length ≤ 1048576 := by rw [P.bulk_no, P.bulks_one] at hbk; omega
    refine form_plain _ (show 5 ≤ 6 by decide) rfl (body_15 _ rfl (atom_div m (by omega) t (term_all ht rfl hb.1)) (fun last => ?_))
    unfold bodyB atomB
    rw [P.body_div, P.body_div]
  | not t ht ih =>
    intro _ hbk
    exact form_plain _ (show 5 ≤ 5 by decide) rfl (body_16 t (ih rfl (by rw [P.nd, P.bulk_no, P.bulks_one] at hbk; omega)))
  | and t u ks ht hu hks iht ihu ihks =>
    intro _ hbk
    have hp := T.bulk_pos t
    have hp2 := T.bulk_pos u
    have hb : t.bulk ≤ 1048576 ∧ u.bulk ≤ 1048576 ∧ T.bulks ks ≤ 1048573 := by rw [P.nd, P.bulk_no, P.bulks_cons, P.bulks_cons] at hbk; omega
    refine form_17 _ rfl (body_17 _ rfl (t :: u :: ks) rfl (fun k hk => ?_) (by simp) (by have := T.len_bulks ks; simp only [List.length_cons]; omega) (fun last => ?_))
    · rcases List.mem_cons.1 hk with rfl | hk
      · exact iht rfl hb.1
      rcases List.mem_cons.1 hk with rfl | hk
      · exact ihu rfl hb.2.1
      · exact ihks k hk rfl (Nat.le_trans (bulk_mem hk) (Nat.le_trans hb.2.2 (by decide)))
    · unfold bodyB
      rw [P.body_and]
      simp only [P.bytes_append]
      rfl
  | or t u ks ht hu hks iht ihu ihks =>
    intro _ hbk
    have hp := T.bulk_pos t
    have hp2 := T.bulk_pos u
    have hb : t.bulk ≤ 1048576 ∧ u.bulk ≤ 1048576 ∧ T.bulks ks ≤ 1048573 := by rw [P.nd, P.bulk_no, P.bulks_cons, P.bulks_cons] at hbk; omega
    refine form_18 _ rfl (body_18 _ rfl (t :: u :: ks) rfl (fun k hk => ?_) (by simp) (by have := T.len_bulks ks; simp only [List.length_cons]; omega) (fun last => ?_))
    · rcases List.mem_cons.1 hk with rfl | hk
      · exact iht rfl hb.1
      rcases List.mem_cons.1 hk with rfl | hk
      · exact ihu rfl hb.2.1
      · exact ihks k hk rfl (Nat.le_trans (bulk_mem hk) (Nat.le_trans hb.2.2 (by decide)))
    · unfold bodyB
      rw [P.body_or]
      simp only [P.bytes_append]
      rfl
  | imp t u ht hu iht ihu =>
    intro _ hbk
    have hp := T.bulk_pos t
    have hp2 := T.bulk_pos u
    have hb : t.bulk ≤ 1048576 ∧ u.bulk ≤ 1048576 := by rw [P.nd, P.bulk_no, P.bulks_cons, P.bulks_one] at hbk; omega
    refine form_19 _ rfl (body_19 _ rfl ([t, u]) rfl (fun k hk => ?_) (by simp) (by simp only [List.length_cons, List.length_nil]; omega) (fun last => ?_))
    · rcases List.mem_cons.1 hk with rfl | hk
      · exact iht rfl hb.1
      · obtain rfl := List.mem_singleton.1 hk
        exact ihu rfl hb.2
    · unfold bodyB
      rw [P.body_imp]
      simp only [P.bytes_append]
      show _ = formB 3 false t ++ rowB ⟨#[105, 109, 112, 108, 105, 101, 115]⟩ 2 last [u]
      rw [rowB_cons, rowB_nil, P.bytes_cons, P.bytes_cons, P.bytes_cons]
      simp [formB, P.itB]
  | iff t u ht hu iht ihu =>
    intro _ hbk
    have hp := T.bulk_pos t
    have hp2 := T.bulk_pos u
    have hb : t.bulk ≤ 1048576 ∧ u.bulk ≤ 1048576 := by rw [P.nd, P.bulk_no, P.bulks_cons, P.bulks_one] at hbk; omega
    refine form_20 _ rfl (body_20 _ rfl ([t, u]) rfl (fun k hk => ?_) (by simp) (by simp only [List.length_cons, List.length_nil]; omega) (fun last => ?_))
    · rcases List.mem_cons.1 hk with rfl | hk
      · exact iht rfl hb.1
      · obtain rfl := List.mem_singleton.1 hk
        exact ihu rfl hb.2
    · unfold bodyB
      rw [P.body_iff]
      simp only [P.bytes_append]
      show _ = formB 1 false t ++ rowB ⟨#[105, 102, 102]⟩ 2 last [u]
      rw [rowB_cons, rowB_nil, P.bytes_cons, P.bytes_cons, P.bytes_cons]
      simp [formB, P.itB]
  | some s ns hs hns t ht ih =>
    intro _ hbk
    have hb : t.bulk ≤ 1048576 ∧ (s :: ns).length ≤ 1048576 := by
      have := (T.bulk_node hbk).2.1
      rw [T.bulk, P.bulks_one] at hbk
      omega
    exact form_21 _ rfl (body_21 s ns t hb.2 (ih rfl hb.1))
  | all s ns hs hns t ht ih =>
    intro _ hbk
    have hb : t.bulk ≤ 1048576 ∧ (s :: ns).length ≤ 1048576 := by
      have := (T.bulk_node hbk).2.1
      rw [T.bulk, P.bulks_one] at hbk
      omega
    exact form_22 _ rfl (body_22 s ns t hb.2 (ih rfl hb.1))
end Go.Proofs.YthiadenmljbdaaaGreatDoor
end
section
namespace Go.Proofs.YthiadenmljbdaaaGreatDoor
open Go.RowKit
def T.cntOK (t : T) : Bool := decide (leastK t.k ≤ t.ks.length) && (decide (mostK t.k < 0) || decide ((t.ks.length : Int) ≤ mostK t.k))
theorem nm_empty (s : ByteArray) : (s.size = 0 → (s.toList == []) = true ∧ (s.toList != []) = false) ∧ (s.size ≠ 0 → (s.toList == []) = false ∧ (s.toList != []) = true) := by
  have h : s.toList = [] ↔ s.size = 0 := by
    rw [ByteArray.toList_eq, ← size_list]
    exact List.length_eq_zero_iff.symm
  refine ⟨fun h0 => ?_, fun h0 => ?_⟩
  · rw [h.2 h0]; exact ⟨rfl, rfl⟩
  · have hne : s.toList ≠ [] := fun e => h0 (h.1 e)
    exact ⟨by simpa using hne, by simpa using hne⟩
end Go.Proofs.YthiadenmljbdaaaGreatDoor
end
