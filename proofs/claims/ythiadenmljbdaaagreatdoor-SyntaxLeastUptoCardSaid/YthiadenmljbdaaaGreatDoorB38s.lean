/-
  s: the parts PRead PRead2 YExact of the proof.
-/
import Derived.Test.YthiadenmljbdaaaGreatDoorB10s
import Derived.Test.YthiadenmljbdaaaGreatDoorB15s
import Derived.Test.YthiadenmljbdaaaGreatDoorB26s
import Derived.Test.YthiadenmljbdaaaGreatDoorB32s
import Derived.Test.YthiadenmljbdaaaGreatDoorB13s
import Derived.Deep.CutRange
import Derived.BigQuiet
import Derived.Deep.RegionHeld3
section
namespace Go.Proofs.YthiadenmljbdaaaGreatDoor
open Go.RowKit
namespace P
theorem nok_nil : NOK [] := ⟨N.Lim.nil, rfl⟩
def WOk (w : Wd) : Prop := (w.1 = 2 → nameB w.2.1 = true) ∧ (w.1 = 1 → NOK w.2.2.1)
def WsOk (l : List Wd) : Prop := ∀ w ∈ l, WOk w
theorem WsOk.tail {l : List Wd} (h : WsOk l) : WsOk l.tail := fun w hw => h w (List.mem_of_mem_tail hw)
theorem WsOk.beh {l : List Wd} (h : WsOk l) : WsOk (beh l) := fun w hw => h w ((List.dropWhile_sublist _).mem hw)
theorem WsOk.nms {l : List Wd} (h : WsOk l) : ∀ a ∈ nms l, nameB a = true := fun a ha => by
  obtain ⟨w, hw, rfl⟩ := List.mem_map.1 ha
  have h1 := h w ((List.takeWhile_sublist _).mem hw)
  have h2 : (w.1 == 2) = true := by
    have := List.all_takeWhile (p := fun t : Wd => t.1 == 2) (l := l)
    rw [List.all_eq_true] at this
    exact this w hw
  exact h1.1 (by simpa using h2)
def NT.isF : NT → Bool
  | .sum | .sumL _ | .oper => false
  | _ => true
def NT.ok (l : List Wd) : NT → Prop
  | .formL t => Wf true t
  | .orL ks => ks ≠ [] ∧ (∀ k ∈ ks, Wf true k) ∧ (2 ≤ ks.length ∨ isW ⟨#[111, 114]⟩ l = true)
  | .andL ks => ks ≠ [] ∧ (∀ k ∈ ks, Wf true k) ∧ (2 ≤ ks.length ∨ isW ⟨#[97, 110, 100]⟩ l = true)
  | .sumL t => Wf false t
  | _ => True
theorem two_of {ks : List T} (h : 2 ≤ ks.length) : ∃ t u r, ks = t :: u :: r := by
  match ks, h with
  | [], h => simp at h
  | [a], h => simp at h
  | a :: b :: r, _ => exact ⟨a, b, r, rfl⟩
theorem kd_ok {l : List Wd} (h : WsOk l) {k : Nat} (hk : kd l = k) (h0 : k ≠ 0) : (k = 2 → nameB (tx l) = true) ∧ (k = 1 → NOK (mg l)) := by
  obtain ⟨t, r, rfl, e⟩ := kd_cons hk h0
  have h1 := h t List.mem_cons_self
  subst e
  exact h1
theorem sign_rng {l : List Wd} (h : sign l ≠ 0) : 9 ≤ sign l ∧ sign l ≤ 14 := by
  unfold sign at h ⊢
  split
  · omega
  split
  · omega
  split
  · omega
  split
  · omega
  split
  · omega
  split
  · omega
  · rename_i h1 h2 h3 h4 h5 h6
    rw [if_neg h1, if_neg h2, if_neg h3, if_neg h4, if_neg h5, if_neg h6] at h
    exact absurd rfl h
theorem G_wf (e : Nat) : ∀ (f : Nat) (nt : NT) (l : List Wd) (t : T) (r : List Wd), G e f nt l = .ok t r → WsOk l → nt.ok l → Wf nt.isF t ∧ WsOk r
  | 0, _, _, _, _, h, _, _ => by cases h
  | f + 1, nt, l, t, r, h, hl, hn => by
    have ih := G_wf e f
    rw [G_succ] at h
    cases nt with
    | form =>
      obtain ⟨u, s, h1, h2⟩ := Rd.bind_ok h
      have a := ih _ _ _ _ h1 hl trivial
      have b := ih _ _ _ _ h2 a.2 a.1
      exact b
    | formL t0 =>
      unfold step at h
      dsimp only at h
      split at h
      · obtain ⟨u, s, h1, h2⟩ := Rd.bind_ok h
        have a := ih _ _ _ _ h1 hl.tail trivial
        have b := ih (.formL (nd 20 [t0, u])) _ _ _ h2 a.2 (.iff _ _ hn a.1)
        exact b
      · injection h with h1 h2
        subst h1; subst h2
        exact ⟨hn, hl⟩
    | impl =>
      obtain ⟨u, s, h1, h2⟩ := Rd.bind_ok h
      have a := ih _ _ _ _ h1 hl trivial
      split at h2
      · obtain ⟨u', s', h3, h4⟩ := Rd.bind_ok h2
        have b := ih _ _ _ _ h3 a.2.tail trivial
        injection h4 with h5 h6
        subst h5; subst h6
        exact ⟨.imp _ _ a.1 b.1, b.2⟩
      · injection h2 with h3 h4
        subst h3; subst h4
        exact a
    | ored =>
      obtain ⟨u, s, h1, h2⟩ := Rd.bind_ok h
      have a := ih _ _ _ _ h1 hl trivial
      split at h2
      · rename_i hw
        exact ih (.orL [u]) _ _ _ h2 a.2 ⟨by simp, fun k hk => by rw [List.mem_singleton.1 hk]; exact a.1, .inr hw⟩
      · injection h2 with h3 h4
        subst h3; subst h4
        exact a
    | orL ks =>
      obtain ⟨n1, n2, n3⟩ := hn
      unfold step at h
      dsimp only at h
      split at h
      · obtain ⟨u, s, h1, h2⟩ := Rd.bind_ok h
        have a := ih _ _ _ _ h1 hl.tail trivial
        refine ih (.orL (ks ++ [u])) _ _ _ h2 a.2 ⟨by simp, fun k hk => ?_, .inl ?_⟩
        · rcases List.mem_append.1 hk with hk | hk
          · exact n2 k hk
          · rw [List.mem_singleton.1 hk]; exact a.1
        · have := List.length_pos_iff.2 n1
          simp only [List.length_append, List.length_cons, List.length_nil]
          omega
      · rename_i hw
        injection h with h1 h2
        subst h1; subst h2
        obtain ⟨x, y, z, rfl⟩ := two_of (n3.resolve_right hw)
        exact ⟨.or x y z (n2 x (by simp)) (n2 y (by simp)) (fun k hk => n2 k (by simp [hk])), hl⟩
    | anded =>
      obtain ⟨u, s, h1, h2⟩ := Rd.bind_ok h
      have a := ih _ _ _ _ h1 hl trivial
      split at h2
      · rename_i hw
        exact ih (.andL [u]) _ _ _ h2 a.2 ⟨by simp, fun k hk => by rw [List.mem_singleton.1 hk]; exact a.1, .inr hw⟩
      · injection h2 with h3 h4
        subst h3; subst h4
        exact a
    | andL ks =>
      obtain ⟨n1, n2, n3⟩ := hn
      unfold step at h
      dsimp only at h
      split at h
      · obtain ⟨u, s, h1, h2⟩ := Rd.bind_ok h
        have a := ih _ _ _ _ h1 hl.tail trivial
        refine ih (.andL (ks ++ [u])) _ _ _ h2 a.2 ⟨by simp, fun k hk => ?_, .inl ?_⟩
        · rcases List.mem_append.1 hk with hk | hk
          · exact n2 k hk
          · rw [List.mem_singleton.1 hk]; exact a.1
        · have := List.length_pos_iff.2 n1
          simp only [List.length_append, List.length_cons, List.length_nil]
          omega
      · rename_i hw
        injection h with h1 h2
        subst h1; subst h2
        obtain ⟨x, y, z, rfl⟩ := two_of (n3.resolve_right hw)
        exact ⟨.and x y z (n2 x (by simp)) (n2 y (by simp)) (fun k hk => n2 k (by simp [hk])), hl⟩
    | notted =>
      have hbd : ∀ k, (k = 21 ∨ k = 22) → bound e (G e f) k l.tail = .ok t r → Wf true t ∧ WsOk r := fun k hk h => by
        unfold bound at h
        split at h
        · exact (wrong_ok h).elim
        · rename_i hc
          obtain ⟨u, s, h1, h2⟩ := Rd.bind_ok h
          have a := ih _ _ _ _ h1 hl.tail.beh.tail trivial
          have hnm := hl.tail.nms
          injection h2 with h3 h4
          subst h3; subst h4
          cases hq : nms l.tail with
          | nil => rw [hq] at hc; exact absurd rfl hc
          | cons x xs =>
            rw [hq] at hnm
            refine ⟨?_, a.2⟩
            rcases hk with rfl | rfl
            · exact .some x xs (hnm x (by simp)) (fun y hy => hnm y (by simp [hy])) _ a.1
            · exact .all x xs (hnm x (by simp)) (fun y hy => hnm y (by simp [hy])) _ a.1
      unfold step at h
      dsimp only at h
      split at h
      · obtain ⟨u, s, h1, h2⟩ := Rd.bind_ok h
        have a := ih _ _ _ _ h1 hl.tail trivial
        injection h2 with h3 h4
        subst h3; subst h4
        exact ⟨.not _ a.1, a.2⟩
      split at h
      · exact hbd 21 (.inl rfl) h
      split at h
      · exact hbd 22 (.inr rfl) h
      · exact ih .prim _ _ _ h hl trivial
    | prim =>
      unfold step at h
      dsimp only at h
      split at h
      · injection h with h1 h2
        subst h1; subst h2
        exact ⟨.tt, hl.tail⟩
      split at h
      · injection h with h1 h2
        subst h1; subst h2
        exact ⟨.ff, hl.tail⟩
      split at h
      · obtain ⟨u, s, h1, h2⟩ := Rd.bind_ok h
        have a := ih _ _ _ _ h1 hl.tail trivial
        split at h2
        · injection h2 with h3 h4
          subst h3; subst h4
          exact ⟨a.1, a.2.tail⟩
        · exact (wrong_ok h2).elim
      split at h
      · rename_i hd
        split at h
        · cases h
        · rename_i hm
          obtain ⟨u, s, h1, h2⟩ := Rd.bind_ok h
          have a := ih _ _ _ _ h1 hl.tail.tail trivial
          injection h2 with h3 h4
          subst h3; subst h4
          simp only [Bool.and_eq_true, beq_iff_eq] at hd
          exact ⟨.div _ ((kd_ok hl hd.1 (by decide)).2 rfl) (fun e => hm (by rw [e]; rfl)) _ a.1, a.2⟩
      · obtain ⟨u, s, h1, h2⟩ := Rd.bind_ok h
        have a := ih _ _ _ _ h1 hl trivial
        split at h2
        · exact (wrong_ok h2).elim
        · rename_i hs
          obtain ⟨u', s', h3, h4⟩ := Rd.bind_ok h2
          have b := ih _ _ _ _ h3 a.2.tail trivial
          injection h4 with h5 h6
          subst h5; subst h6
          exact ⟨.cmp _ (sign_rng hs) _ _ a.1 b.1, b.2⟩
    | sum =>
      obtain ⟨u, s, h1, h2⟩ := Rd.bind_ok h
      have a := ih _ _ _ _ h1 hl trivial
      have b := ih _ _ _ _ h2 a.2 a.1
      exact b
    | sumL t0 =>
      unfold step at h
      dsimp only at h
      split at h
      · obtain ⟨u, s, h1, h2⟩ := Rd.bind_ok h
        have a := ih _ _ _ _ h1 hl.tail trivial
        have b := ih (.sumL (nd 5 [t0, u])) _ _ _ h2 a.2 (.sub _ _ hn a.1)
        exact b
      split at h
      · obtain ⟨u, s, h1, h2⟩ := Rd.bind_ok h
        have a := ih _ _ _ _ h1 hl.tail trivial
        have b := ih (.sumL (nd 4 [t0, u])) _ _ _ h2 a.2 (.add _ _ hn a.1)
        exact b
      · injection h with h1 h2
        subst h1; subst h2
        exact ⟨hn, hl⟩
    | oper =>
      unfold step at h
      dsimp only at h
      split at h
      · obtain ⟨u, s, h1, h2⟩ := Rd.bind_ok h
        have a := ih _ _ _ _ h1 hl.tail trivial
        injection h2 with h3 h4
        subst h3; subst h4
        exact ⟨.neg _ a.1, a.2⟩
      split at h
      · obtain ⟨u, s, h1, h2⟩ := Rd.bind_ok h
        have a := ih _ _ _ _ h1 hl.tail trivial
        split at h2
        · injection h2 with h3 h4
          subst h3; subst h4
          exact ⟨a.1, a.2.tail⟩
        · exact (wrong_ok h2).elim
      split at h
      · rename_i hk
        injection h with h1 h2
        subst h1; subst h2
        exact ⟨.var _ ((kd_ok hl hk (by decide)).1 rfl), hl.tail⟩
      split at h
      · rename_i hk
        have hm := (kd_ok hl hk (by decide)).2 rfl
        split at h
        · obtain ⟨u, s, h1, h2⟩ := Rd.bind_ok h
          have a := ih _ _ _ _ h1 hl.tail.tail trivial
          injection h2 with h3 h4
          subst h3; subst h4
          exact ⟨.mul _ hm _ a.1, a.2⟩
        · injection h with h1 h2
          subst h1; subst h2
          exact ⟨.num _ hm, hl.tail⟩
      · exact (wrong_ok h).elim
def NB (x : Rd) : Prop := ∀ p, x ≠ .bad 0 p
theorem NB.ok (t : T) (r : List Wd) : NB (.ok t r) := fun _ h => by cases h
theorem nb_wrong (e : Nat) (l : List Wd) : NB (wrong e l) := fun p h => by cases l <;> cases h
theorem NB.bind {x : Rd} {k : T → List Wd → Rd} (h : NB x) (hk : ∀ t r, NB (k t r)) : NB (x.bind k) := fun p hp => by
  rcases Rd.bind_bad hp with h1 | ⟨u, s, _, h1⟩
  · exact h p h1
  · exact hk u s p h1
theorem NB.ite {c : Prop} [Decidable c] {x y : Rd} (h : NB x) (h' : NB y) : NB (if c then x else y) := by
  split
  · exact h
  · exact h'
theorem bound_nb {e : Nat} {rec : NT → List Wd → Rd} (h : ∀ nt l, NB (rec nt l)) (k : Int) (l : List Wd) : NB (bound e rec k l) :=
  NB.ite (nb_wrong _ _) (NB.bind (h _ _) (fun _ _ => .ok _ _))
theorem step_nb {e : Nat} {rec : NT → List Wd → Rd} (h : ∀ nt l, NB (rec nt l)) (nt : NT) (l : List Wd) : NB (step e rec nt l) := by
  cases nt with
  | form => exact NB.bind (h _ _) (fun _ _ => h _ _)
  | formL t => exact NB.ite (NB.bind (h _ _) (fun _ _ => h _ _)) (.ok _ _)
  | impl => exact NB.bind (h _ _) (fun _ _ => NB.ite (NB.bind (h _ _) (fun _ _ => .ok _ _)) (.ok _ _))
  | ored => exact NB.bind (h _ _) (fun _ _ => NB.ite (h _ _) (.ok _ _))
  | orL ks => exact NB.ite (NB.bind (h _ _) (fun _ _ => h _ _)) (.ok _ _)
  | anded => exact NB.bind (h _ _) (fun _ _ => NB.ite (h _ _) (.ok _ _))
  | andL ks => exact NB.ite (NB.bind (h _ _) (fun _ _ => h _ _)) (.ok _ _)
  | notted => exact NB.ite (NB.bind (h _ _) (fun _ _ => .ok _ _)) (NB.ite (bound_nb h _ _) (NB.ite (bound_nb h _ _) (h _ _)))
  | prim => exact NB.ite (.ok _ _) (NB.ite (.ok _ _) (NB.ite (NB.bind (h _ _) (fun _ _ => NB.ite (.ok _ _) (nb_wrong _ _))) (NB.ite (NB.ite (fun _ h => by cases h) (NB.bind (h _ _) (fun _ _ => .ok _ _))) (NB.bind (h _ _) (fun _ _ => NB.ite (nb_wrong _ _) (NB.bind (h _ _) (fun _ _ => .ok _ _)))))))
  | sum => exact NB.bind (h _ _) (fun _ _ => h _ _)
  | sumL t => exact NB.ite (NB.bind (h _ _) (fun _ _ => h _ _)) (NB.ite (NB.bind (h _ _) (fun _ _ => h _ _)) (.ok _ _))
  | oper => exact NB.ite (NB.bind (h _ _) (fun _ _ => .ok _ _)) (NB.ite (NB.bind (h _ _) (fun _ _ => NB.ite (.ok _ _) (nb_wrong _ _))) (NB.ite (.ok _ _) (NB.ite (NB.ite (NB.bind (h _ _) (fun _ _ => .ok _ _)) (.ok _ _)) (nb_wrong _ _))))
theorem G_nb (e : Nat) : ∀ (f : Nat) (nt : NT) (l : List Wd), NB (G e f nt l)
  | 0, _, _ => fun _ h => by cases h
  | f + 1, nt, l => by rw [G_succ]; exact step_nb (G_nb e f) nt l
theorem resOf_ok {x : Rd} {t : T} (hb : NB x) (ho : x ≠ .out) (h : resOf x = (0, 0, t)) : (∃ r, x = .ok t r) ∧ t.depth ≤ 60 := by
  cases x with
  | out => exact absurd rfl ho
  | bad c p =>
    unfold resOf at h
    injection h with h1 h2
    subst h1
    exact absurd rfl (hb p)
  | ok u r =>
    unfold resOf at h
    dsimp only at h
    split at h
    · injection h with h1 _
      cases h1
    · injection h with _ h2
      injection h2 with _ h3
      subst h3
      exact ⟨⟨r, rfl⟩, by omega⟩
theorem read_nb (e : Nat) (l : List Wd) : NB (read e l) := NB.bind (G_nb _ _ _ _) (fun _ _ => NB.ite (.ok _ _) (nb_wrong _ _))
theorem read_out (e : Nat) (l : List Wd) : read e l ≠ .out := fun h => by
  rcases bind_out h with h1 | ⟨u, s, _, h2⟩
  · exact G_total e (fuel l) .form l (by simp only [NT.rank, fuel]; omega) h1
  · split at h2
    · cases h2
    · exact wrong_out h2
theorem read_ok {e : Nat} {l : List Wd} {t : T} {r : List Wd} (h : read e l = .ok t r) : G e (fuel l) .form l = .ok t [] ∧ r = [] := by
  obtain ⟨u, s, h1, h2⟩ := Rd.bind_ok h
  split at h2
  · rename_i hs
    injection h2 with h3 h4
    subst h3
    rw [List.isEmpty_iff.1 hs] at h1
    exact ⟨h1, h4.symm⟩
  · exact (wrong_ok h2).elim
theorem vld_nok {m : List Nat} (h : NOK m) : vld false m = true := by
  unfold vld
  rw [h.2]
  simp
theorem mades_of {b : Bool} : ∀ {l : List T}, (∀ k ∈ l, T.made b k = true ∧ k.none = false) → T.mades b l = true ∧ T.nones l = false
  | [], _ => ⟨by rw [T.mades], by rw [T.nones]⟩
  | t :: r, h => by
    have h1 := h t List.mem_cons_self
    have h2 := mades_of (l := r) (fun k hk => h k (List.mem_cons_of_mem _ hk))
    rw [T.mades, T.nones, h1.1, h1.2, h2.1, h2.2]
    exact ⟨rfl, rfl⟩
theorem made_k {b : Bool} {k : Int} {nm : ByteArray} {ns : List ByteArray} {m : List Nat} {ks : List T} (h1 : okK k = true) (h2 : fmK k = b) (h3 : leastK k ≤ ks.length) (h4 : mostK k < 0 ∨ (ks.length : Int) ≤ mostK k) (h5 : nameK k = nameB nm) (h6 : nameK k = true ∨ nm.size = 0)
    (h7 : namesK k = decide (0 < ns.length)) (h8 : namesB ns = true) (h9 : numK k = true ∨ m = []) (h10 : NOK m) (h11 : k = 15 → m ≠ []) (hk : ∀ u ∈ ks, T.made (innerK k) u = true ∧ u.none = false) :
    T.made b (.node k nm ns false m ks) = true ∧ (T.node k nm ns false m ks).none = false := by
  obtain ⟨a1, a2⟩ := mades_of hk
  constructor
  · rw [T.made]
    have hb : (numK k || bareB false m) = true := by
      rcases h9 with h9 | h9
      · rw [h9]; rfl
      · rw [h9]; simp [bareB]
    have hn : (nameK k || nm.size == 0) = true := by
      rcases h6 with h6 | h6
      · rw [h6]; rfl
      · rw [h6]; simp
    have hc : (decide (mostK k < 0) || decide ((ks.length : Int) ≤ mostK k)) = true := by
      rcases h4 with h4 | h4
      · rw [decide_eq_true h4]; rfl
      · rw [decide_eq_true h4]; simp
    rw [h1, h2, decide_eq_true h3, hc, ← h5, hn, ← h7, h8, hb, vld_nok h10, a1]
    simp
  · rw [T.none, a2]
    by_cases h : k = 15
    · have := h11 h
      have hb : bareB false m = false := by
        cases m with
        | nil => exact absurd rfl this
        | cons x y => simp [bareB]
      rw [hb]; simp
    · have : (k == 15) = false := by simpa using h
      rw [this]; rfl
theorem made_wf {b : Bool} {t : T} (h : Wf b t) : T.made b t = true ∧ t.none = false := by
  have n0 : nameB ⟨#[]⟩ = false := by decide
  have n1 : NOK [] := nok_nil
  have e15 : ∀ k : Int, k ≠ 15 → k = 15 → ([] : List Nat) ≠ [] := fun k h h' => absurd h' h
  have one : ∀ {b : Bool} {t : T}, (T.made b t = true ∧ t.none = false) → ∀ u ∈ [t], T.made b u = true ∧ u.none = false := fun h u hu => by rw [List.mem_singleton.1 hu]; exact h
  have two : ∀ {b : Bool} {t s : T}, (T.made b t = true ∧ t.none = false) → (T.made b s = true ∧ s.none = false) → ∀ u ∈ [t, s], T.made b u = true ∧ u.none = false := fun h h' u hu => by
    rcases List.mem_cons.1 hu with rfl | hu
    · exact h
    · rw [List.mem_singleton.1 hu]; exact h'
  have non : ∀ b : Bool, ∀ u ∈ ([] : List T), T.made b u = true ∧ u.none = false := fun b u hu => by cases hu
  have many : ∀ {b : Bool} {t s : T} {ks : List T}, (T.made b t = true ∧ t.none = false) → (T.made b s = true ∧ s.none = false) → (∀ k ∈ ks, T.made b k = true ∧ k.none = false) → ∀ u ∈ t :: s :: ks, T.made b u = true ∧ u.none = false := fun h h' h'' u hu => by
    rcases List.mem_cons.1 hu with rfl | hu
    · exact h
    rcases List.mem_cons.1 hu with rfl | hu
    · exact h'
    · exact h'' u hu
  have nms : ∀ {s : ByteArray} {ns : List ByteArray}, nameB s = true → (∀ a ∈ ns, nameB a = true) → namesB (s :: ns) = true := fun {s ns} hs hns => by
    unfold namesB
    rw [List.all_eq_true]
    intro a ha
    rcases List.mem_cons.1 ha with rfl | ha
    · exact hs
    · exact hns a ha
  induction h with
  | num m hm => exact made_k rfl rfl (by decide) (.inr (by decide)) n0.symm (.inr rfl) rfl rfl (.inl rfl) hm (fun h => absurd h (by decide)) (non _)
  | var s hs => exact made_k rfl rfl (by decide) (.inr (by decide)) hs.symm (.inl rfl) rfl rfl (.inr rfl) n1 (fun h => absurd h (by decide)) (non _)
  | neg t ht ih => exact made_k rfl rfl (Int.le_refl 1) (.inr (Int.le_refl 1)) n0.symm (.inr rfl) rfl rfl (.inr rfl) n1 (fun h => absurd h (by decide)) (one ih)
  | add t u ht hu iht ihu => exact made_k rfl rfl (Int.le_refl 2) (.inr (Int.le_refl 2)) n0.symm (.inr rfl) rfl rfl (.inr rfl) n1 (fun h => absurd h (by decide)) (two iht ihu)
  | sub t u ht hu iht ihu => exact made_k rfl rfl (Int.le_refl 2) (.inr (Int.le_refl 2)) n0.symm (.inr rfl) rfl rfl (.inr rfl) n1 (fun h => absurd h (by decide)) (two iht ihu)
  | mul m hm t ht ih => exact made_k rfl rfl (Int.le_refl 1) (.inr (Int.le_refl 1)) n0.symm (.inr rfl) rfl rfl (.inl rfl) hm (fun h => absurd h (by decide)) (one ih)
  | tt => exact made_k rfl rfl (by decide) (.inr (by decide)) n0.symm (.inr rfl) rfl rfl (.inr rfl) n1 (fun h => absurd h (by decide)) (non _)
  | ff => exact made_k rfl rfl (by decide) (.inr (by decide)) n0.symm (.inr rfl) rfl rfl (.inr rfl) n1 (fun h => absurd h (by decide)) (non _)
  | cmp k hk t u ht hu iht ihu =>
    have : k = 9 ∨ k = 10 ∨ k = 11 ∨ k = 12 ∨ k = 13 ∨ k = 14 := by omega
    rcases this with rfl | rfl | rfl | rfl | rfl | rfl
    all_goals exact made_k rfl rfl (Int.le_refl 2) (.inr (Int.le_refl 2)) n0.symm (.inr rfl) rfl rfl (.inr rfl) n1 (fun h => absurd h (by decide)) (two iht ihu)
  | div m hm h0 t ht ih => exact made_k rfl rfl (Int.le_refl 1) (.inr (Int.le_refl 1)) n0.symm (.inr rfl) rfl rfl (.inl rfl) hm (fun _ => h0) (one ih)
  | not t ht ih => exact made_k rfl rfl (Int.le_refl 1) (.inr (Int.le_refl 1)) n0.symm (.inr rfl) rfl rfl (.inr rfl) n1 (fun h => absurd h (by decide)) (one ih)
  | and t u ks ht hu hks iht ihu ihks => exact made_k rfl rfl (by show (2 : Int) ≤ ((ks.length + 1 + 1 : Nat) : Int); omega) (.inl (by decide)) n0.symm (.inr rfl) rfl rfl (.inr rfl) n1 (fun h => absurd h (by decide)) (many iht ihu ihks)
  | or t u ks ht hu hks iht ihu ihks => exact made_k rfl rfl (by show (2 : Int) ≤ ((ks.length + 1 + 1 : Nat) : Int); omega) (.inl (by decide)) n0.symm (.inr rfl) rfl rfl (.inr rfl) n1 (fun h => absurd h (by decide)) (many iht ihu ihks)
  | imp t u ht hu iht ihu => exact made_k rfl rfl (Int.le_refl 2) (.inr (Int.le_refl 2)) n0.symm (.inr rfl) rfl rfl (.inr rfl) n1 (fun h => absurd h (by decide)) (two iht ihu)
  | iff t u ht hu iht ihu => exact made_k rfl rfl (Int.le_refl 2) (.inr (Int.le_refl 2)) n0.symm (.inr rfl) rfl rfl (.inr rfl) n1 (fun h => absurd h (by decide)) (two iht ihu)
  | some s ns hs hns t ht ih => exact made_k rfl rfl (Int.le_refl 1) (.inr (Int.le_refl 1)) n0.symm (.inr rfl) (by simp; rfl) (nms hs hns) (.inr rfl) n1 (fun h => absurd h (by decide)) (one ih)
  | all s ns hs hns t ht ih => exact made_k rfl rfl (Int.le_refl 1) (.inr (Int.le_refl 1)) n0.symm (.inr rfl) (by simp; rfl) (nms hs hns) (.inr rfl) n1 (fun h => absurd h (by decide)) (one ih)
theorem chk_wf {t : T} (h : Wf true t) (hd : t.depth ≤ 60) : t.chk = 0 := by
  obtain ⟨h1, h2⟩ := made_wf h
  unfold T.chk
  rw [if_pos h1, if_neg (by rw [h2]; decide), if_neg (by omega)]
theorem ws_ok (l : List UInt8) (hl : l.length ≤ 4096) : WsOk (X.tks l (X.ans l).1) := fun w hw => by
  unfold X.tks at hw
  obtain ⟨x, hx, rfl⟩ := List.mem_map.1 hw
  obtain ⟨_, h1⟩ := (X.ans_facts l hl).1 x hx
  refine ⟨fun h2 => ?_, fun h2 => ?_⟩
  · dsimp only at h2 ⊢
    rw [h2] at h1
    exact (X.one_name h1).1
  · dsimp only at h2 ⊢
    rw [if_pos h2]
    exact ⟨N.lim_ofN _, by rw [N.nv_ofN]⟩
theorem res_wf {S : ByteArray} {t : T} (h : res S = (0, 0, t)) : Wf true t ∧ t.depth ≤ 60 ∧ t.chk = 0 ∧ S.size ≤ 4096 := by
  unfold res at h
  by_cases h1 : 4096 < S.size
  · rw [if_pos h1] at h; cases h
  rw [if_neg h1] at h
  by_cases h2 : (X.ans S.data.toList).2.1 ≠ 0
  · rw [if_pos h2] at h
    injection h with h3 _
    exact absurd h3 h2
  rw [if_neg h2] at h
  have hl : S.data.toList.length ≤ 4096 := by
    have : S.data.toList.length = S.size := Array.length_toList
    omega
  have hw := ws_ok S.data.toList hl
  obtain ⟨⟨r, hr⟩, hd⟩ := resOf_ok (read_nb _ _) (read_out _ _) h
  have hwf := (G_wf _ _ _ _ _ _ (read_ok hr).1 hw trivial).1
  exact ⟨hwf, hd, chk_wf hwf hd, by omega⟩
end P
end Go.Proofs.YthiadenmljbdaaaGreatDoor
end
section
namespace Go.Proofs.YthiadenmljbdaaaGreatDoor
open Go.RowKit
namespace P
def PI (e : Nat) : Rd → Prop
  | .out => True
  | .bad _ p => p ≤ e
  | .ok _ r => ∀ w ∈ r, w.2.2.2 ≤ e
def Pk (e : Nat) (l : List Wd) : Prop := ∀ w ∈ l, w.2.2.2 ≤ e
theorem Pk.tail {e : Nat} {l : List Wd} (h : Pk e l) : Pk e l.tail := fun w hw => h w (List.mem_of_mem_tail hw)
theorem Pk.beh {e : Nat} {l : List Wd} (h : Pk e l) : Pk e (beh l) := fun w hw => h w ((List.dropWhile_sublist _).mem hw)
theorem Pk.pl {e : Nat} {l : List Wd} (h : Pk e l) : pl l ≤ e := by
  cases l with
  | nil => exact Nat.zero_le _
  | cons t r => exact h t List.mem_cons_self
theorem PI.wrong {e : Nat} {l : List Wd} (h : Pk e l) : PI e (wrong e l) := by
  cases l with
  | nil => exact Nat.le_refl e
  | cons t r => exact h t List.mem_cons_self
theorem PI.bind {e : Nat} {x : Rd} {k : T → List Wd → Rd} (h : PI e x) (hk : ∀ t r, Pk e r → PI e (k t r)) : PI e (x.bind k) := by
  cases x with
  | out => trivial
  | bad c p => exact h
  | ok t r => exact hk t r h
theorem PI.ite {e : Nat} {c : Prop} [Decidable c] {x y : Rd} (h : PI e x) (h' : PI e y) : PI e (if c then x else y) := by
  split
  · exact h
  · exact h'
theorem bound_pi {e : Nat} {rec : NT → List Wd → Rd} (h : ∀ nt l, Pk e l → PI e (rec nt l)) (k : Int) (l : List Wd) (hl : Pk e l) : PI e (bound e rec k l) :=
  PI.ite (PI.wrong hl.beh) (PI.bind (h _ _ hl.beh.tail) (fun _ _ hr => hr))
theorem step_pi {e : Nat} {rec : NT → List Wd → Rd} (h : ∀ nt l, Pk e l → PI e (rec nt l)) (nt : NT) (l : List Wd) (hl : Pk e l) : PI e (step e rec nt l) := by
  cases nt with
  | form => exact PI.bind (h _ _ hl) (fun _ _ hr => h _ _ hr)
  | formL t => exact PI.ite (PI.bind (h _ _ hl.tail) (fun _ _ hr => h _ _ hr)) hl
  | impl => exact PI.bind (h _ _ hl) (fun _ _ hr => PI.ite (PI.bind (h _ _ hr.tail) (fun _ _ hs => hs)) hr)
  | ored => exact PI.bind (h _ _ hl) (fun _ _ hr => PI.ite (h _ _ hr) hr)
  | orL ks => exact PI.ite (PI.bind (h _ _ hl.tail) (fun _ _ hr => h _ _ hr)) hl
  | anded => exact PI.bind (h _ _ hl) (fun _ _ hr => PI.ite (h _ _ hr) hr)
  | andL ks => exact PI.ite (PI.bind (h _ _ hl.tail) (fun _ _ hr => h _ _ hr)) hl
  | notted => exact PI.ite (PI.bind (h _ _ hl.tail) (fun _ _ hr => hr)) (PI.ite (bound_pi h _ _ hl.tail) (PI.ite (bound_pi h _ _ hl.tail) (h _ _ hl)))
  | prim => exact PI.ite hl.tail (PI.ite hl.tail (PI.ite (PI.bind (h _ _ hl.tail) (fun _ _ hr => PI.ite hr.tail (PI.wrong hr))) (PI.ite (PI.ite hl.pl (PI.bind (h _ _ hl.tail.tail) (fun _ _ hr => hr))) (PI.bind (h _ _ hl) (fun _ _ hr => PI.ite (PI.wrong hr) (PI.bind (h _ _ hr.tail) (fun _ _ hs => hs)))))))
  | sum => exact PI.bind (h _ _ hl) (fun _ _ hr => h _ _ hr)
  | sumL t => exact PI.ite (PI.bind (h _ _ hl.tail) (fun _ _ hr => h _ _ hr)) (PI.ite (PI.bind (h _ _ hl.tail) (fun _ _ hr => h _ _ hr)) hl)
  | oper => exact PI.ite (PI.bind (h _ _ hl.tail) (fun _ _ hr => hr)) (PI.ite (PI.bind (h _ _ hl.tail) (fun _ _ hr => PI.ite hr.tail (PI.wrong hr))) (PI.ite hl.tail (PI.ite (PI.ite (PI.bind (h _ _ hl.tail.tail) (fun _ _ hr => hr)) hl.tail) (PI.wrong hl))))
theorem G_pi (e : Nat) : ∀ (f : Nat) (nt : NT) (l : List Wd), Pk e l → PI e (G e f nt l)
  | 0, _, _, _ => trivial
  | f + 1, nt, l, hl => by rw [G_succ]; exact step_pi (G_pi e f) nt l hl
theorem read_pi (e : Nat) (l : List Wd) (hl : Pk e l) : PI e (read e l) := PI.bind (G_pi _ _ _ _ hl) (fun _ _ hr => PI.ite (fun w hw => by cases hw) (PI.wrong hr))
theorem lexF_at (l : List UInt8) : ∀ (f at_ : Nat), at_ ≤ l.length → (X.lexF l f at_).2.2 ≤ l.length
  | 0, _, _ => Nat.zero_le _
  | f + 1, at_, h => by
    unfold X.lexF
    split
    · exact Nat.zero_le _
    · rename_i h1
      split
      · exact lexF_at l f (at_ + 1) (by omega)
      · split
        · exact h
        · rename_i h3
          have h3 := Decidable.not_not.1 h3
          obtain ⟨_, _, p2⟩ := X.one_pos h3
          rw [List.length_drop] at p2
          exact lexF_at l f _ (by omega)
theorem ans_at (l : List UInt8) (hl : l.length ≤ 4096) : (X.ans l).2.2 ≤ l.length := by
  have ht : X.tokens l = X.lex l 0 := by unfold X.tokens; rw [if_neg (by omega)]
  have hx : (X.lex l 0).2.2 ≤ l.length := lexF_at l _ 0 (Nat.zero_le _)
  unfold X.ans
  rw [ht]
  split
  · exact hx
  · exact hx
theorem pk_tks (l : List UInt8) (hl : l.length ≤ 4096) : Pk l.length (X.tks l (X.ans l).1) := fun w hw => by
  unfold X.tks at hw
  obtain ⟨x, hx, rfl⟩ := List.mem_map.1 hw
  obtain ⟨h1, _⟩ := (X.ans_facts l hl).1 x hx
  dsimp only
  omega
theorem sz (S : ByteArray) : S.data.toList.length = S.size := Array.length_toList
theorem res_err (S : ByteArray) (h : (res S).1 ≠ 0) : (res S).2.2 = t0 ∧ (res S).2.1 ≤ S.size := by
  unfold res at h ⊢
  by_cases h1 : 4096 < S.size
  · rw [if_pos h1] at h ⊢
    exact ⟨rfl, Nat.zero_le _⟩
  rw [if_neg h1] at h ⊢
  have hl : S.data.toList.length ≤ 4096 := by rw [sz]; omega
  by_cases h2 : (X.ans S.data.toList).2.1 ≠ 0
  · rw [if_pos h2]
    exact ⟨rfl, by have := ans_at _ hl; rw [sz] at this; exact this⟩
  rw [if_neg h2] at h ⊢
  have hp := read_pi S.size _ (by have := pk_tks _ hl; rw [sz] at this; exact this)
  cases hx : read S.size (X.tks S.data.toList (X.ans S.data.toList).1) with
  | out => rw [hx] at h; exact absurd rfl h
  | bad c p =>
    rw [hx] at hp
    exact ⟨rfl, hp⟩
  | ok t r =>
    rw [hx] at h
    unfold resOf at h ⊢
    dsimp only at h ⊢
    split
    · exact ⟨rfl, Nat.zero_le _⟩
    · rename_i h3
      rw [if_neg h3] at h
      exact absurd rfl h
theorem res_zero (S : ByteArray) (h : (res S).1 = 0) : res S = (0, 0, (res S).2.2) := by
  unfold res at h ⊢
  by_cases h1 : 4096 < S.size
  · rw [if_pos h1] at h; cases h
  rw [if_neg h1] at h ⊢
  by_cases h2 : (X.ans S.data.toList).2.1 ≠ 0
  · rw [if_pos h2] at h
    exact absurd h h2
  rw [if_neg h2] at h ⊢
  cases hx : read S.size (X.tks S.data.toList (X.ans S.data.toList).1) with
  | out => rfl
  | bad c p =>
    rw [hx] at h
    have hb := read_nb S.size (X.tks S.data.toList (X.ans S.data.toList).1)
    rw [hx] at hb
    exact absurd (by rw [show c = 0 from h]) (hb p)
  | ok t r =>
    rw [hx] at h
    unfold resOf at h ⊢
    dsimp only at h ⊢
    split
    · rename_i h3
      rw [if_pos h3] at h
      cases h
    · rfl
end P
end Go.Proofs.YthiadenmljbdaaaGreatDoor
end
section
namespace Go.Proofs.YthiadenmljbdaaaGreatDoor
open Go.RowKit
set_option maxRecDepth 100000 in
set_option maxHeartbeats 1600000 in
theorem ints_eq (w : World) (R R' : Nat → Prop) (ng : Bool) (A A' : Option Addr) (c c' : Nat) (mg : List Nat) (h : SlR w R A c mg) (h' : SlR w R' A' c' mg) (hl : mg.length ≤ 1048576) :
    Calls Tryz.prog 41 #[.agg #[.bool ng, .slice A mg.length c], .agg #[.bool ng, .slice A' mg.length c']] w fun e w' => e = .returned (.bool true) ∧ Below w.heap.size w w' := by
  obtain ⟨W, hW, p0, p1, hsz, hb0⟩ := enter2r w 25 (.bool ng) (.slice A mg.length c) (.bool ng) (.slice A' mg.length c')
  have hs := (h.below hb0).1
  have hs' := (h'.below hb0).1
  have hcap := hs.cap
  have hcap' := hs'.cap
  obtain ⟨n, hn⟩ : ∃ n, mg.length = n := ⟨_, rfl⟩
  rw [hn] at p0 p1 hW hl hs hs' hcap hcap' ⊢
  have HS := Lib.hid hs
  have HS' := Lib.hid hs'
  obtain ⟨_, _, c0, c1⟩ := p0.facts
  obtain ⟨_, _, d0, d1⟩ := p1.facts
  clear h h' hn hs hs'
  go_enter Tryz.func41, Tryz.ntmps41
  go_upto_region 1 with (fail)
  rw [← hW]
  clear hW
  go_wp2_with fail
  go_loopg [5] (n + 1) (fun gk v5 wr => ∃ i : Nat, gk + i = n + 1 ∧ i ≤ n ∧ v5 = .int .i64 (i : Nat) ∧ Below W.heap.size W wr)
  case atStart => exact ⟨0, by omega, Nat.zero_le _, rfl, Below.refl _ _⟩
  case round =>
    clear c0 c1 d0 d1
    obtain ⟨i, hi, hin, rfl, hS⟩ := hrel
    obtain ⟨_, _, c0, c1⟩ := (p0.below hS).facts
    obtain ⟨_, _, d0, d1⟩ := (p1.below hS).facts
    by_cases hlt : i < n
    · have hi3 : decide (i < n) = true := decide_eq_true hlt
      obtain ⟨b, o, rfl, hc⟩ := (HS.out.below hS).cells (by omega)
      obtain ⟨b', o', rfl, hc'⟩ := (HS'.out.below hS).cells (by omega)
      have e0 := hc i hlt
      have e1 := hc' i hlt
      obtain ⟨z, hz⟩ : ∃ z, N.dg mg i = z := ⟨_, rfl⟩
      rw [hz] at e0 e1
      have hi0 : (0 : Int) ≤ i := by omega
      have hi1 : (i : Int) < n := by omega
      clear hc hc' hz
      go_wp2_with fail
      go_quiet (fail)
      go_wp2_with fail
      go_roundg (n - i)
      case measure => omega
      case rel => exact ⟨i + 1, by omega, by omega, by go_num, below_drewN hS _⟩
    · have hi3 : decide (i < n) = false := decide_eq_false hlt
      obtain rfl : i = n := by omega
      go_wp2_with fail
      go_ret
      exact ⟨rfl, below_on hb0 hS⟩
theorem eq_open {t u : T} (h : t = u) : t.k = u.k ∧ t.nm = u.nm ∧ t.ns = u.ns ∧ t.ng = u.ng ∧ t.mg = u.mg ∧ t.ks.length = u.ks.length ∧ ∀ i, t.ks.getD i t0 = u.ks.getD i t0 := by subst h; exact ⟨rfl, rfl, rfl, rfl, rfl, rfl, fun _ => rfl⟩
set_option maxRecDepth 100000 in
set_option maxHeartbeats 6400000 in
theorem exact_t : ∀ (N : Nat) (t u : T) (w : World) (R R' : Nat → Prop) (v v' : Value), t.bulk ≤ N → u.bulk ≤ N → N ≤ 1048576 → t = u → T.In w R t v → T.In w R' u v' →
    Calls Tryz.prog 13 #[v, v'] w fun e w' => e = .returned (.bool true) ∧ Below w.heap.size w w'
  | 0, t, _, _, _, _, _, _, hN, _, _, _, _, _ => by have := T.bulk_pos t; omega
  | N + 1, t, u, w, R, R', v, v', hN, hN', hN2, hrel, h, h' => by
    have ih := exact_t N
    obtain ⟨A1, c1, A2, c2, A3, c3, rfl, hnames, hmag, hc3, hkids⟩ := h.open
    obtain ⟨D1, d1, D2, d2, D3, d3, rfl, gnames, gmag, gc3, gkids⟩ := h'.open
    obtain ⟨hl1, hl2, hl3, hl4, hlen⟩ := T.len_le hN
    obtain ⟨gl1, gl2, gl3, gl4, glen⟩ := T.len_le hN'
    obtain ⟨q1, q2, q3, q4, q5, q6, qk⟩ := eq_open hrel
    have HNUM := Lib.hid (fun (w2 : World) (hb : Below w.heap.size w w2) => show Calls Tryz.prog 41 #[.agg #[.bool t.ng, .slice A2 t.mg.length c2], .agg #[.bool u.ng, .slice D2 u.mg.length d2]] w2 fun e w' => e = .returned (.bool true) ∧ Below w2.heap.size w2 w' from by rw [← q4, ← q5]; rw [← q5] at gmag; exact ints_eq w2 R R' t.ng A2 D2 c2 d2 t.mg (hmag.below hb) (gmag.below hb) (by omega))
    obtain ⟨n, hn⟩ : ∃ n, t.ks.length = n := ⟨_, rfl⟩
    obtain ⟨m, hm⟩ : ∃ m, t.ns.length = m := ⟨_, rfl⟩
    have hn' : u.ks.length = n := by rw [← q6, hn]
    have hm' : u.ns.length = m := by rw [← q3, hm]
    rw [← q3] at gnames
    obtain ⟨hcp1, hns⟩ := hnames
    obtain ⟨gcp1, gns⟩ := gnames
    rw [hn] at hkids hc3 hlen ⊢
    rw [hn'] at gkids gc3 glen ⊢
    rw [hm] at hl2 hns hcp1 ⊢
    rw [hm'] at gl2 ⊢
    rw [hm] at gns gcp1
    rw [← q1, ← q2]
    obtain ⟨k, hk0⟩ : ∃ k, t.k = k := ⟨_, rfl⟩
    obtain ⟨nm, hnm0⟩ : ∃ k, t.nm = k := ⟨_, rfl⟩
    rw [hk0, hnm0]
    obtain ⟨ml, hml⟩ : ∃ k, t.mg.length = k := ⟨_, rfl⟩
    obtain ⟨ml', hml'⟩ : ∃ k, u.mg.length = k := ⟨_, rfl⟩
    obtain ⟨ng, hng⟩ : ∃ k, t.ng = k := ⟨_, rfl⟩
    obtain ⟨ng', hng'⟩ : ∃ k, u.ng = k := ⟨_, rfl⟩
    rw [hml, hng] at HNUM ⊢
    rw [hml', hng'] at HNUM ⊢
    have HN := Lib.hid hn
    have HN' := Lib.hid hn'
    have HK := Lib.hid hkids
    have HK' := Lib.hid gkids
    have HB := Lib.hid hN
    have HB' := Lib.hid hN'
    have HNS := Lib.hid hns
    have HNS' := Lib.hid gns
    have HQK := Lib.hid qk
    clear hn hn' hm hm' hkids gkids hN hN' hns gns qk q1 q2 q3 q4 q5 q6 hrel h h' hmag gmag hk0 hnm0 hml hml' hng hng'
    go_enter Tryz.func13, Tryz.ntmps13
    go_upto_region 1 with (fail)
    obtain ⟨W0, hW0, pt0, hb0⟩ := made_blk w #[.int .i64 k, .string nm, .slice A1 m c1, .bool ng, .slice A2 ml c2, .slice A3 n c3] 28
    have hsz0 : W0.heap.size = w.heap.size + 1 := by rw [hW0]; simp
    obtain ⟨Bt, hBt⟩ : ∃ b, b = w.heap.size := ⟨_, rfl⟩
    rw [← hW0, ← hBt]
    rw [← hBt] at pt0 hsz0
    obtain ⟨W1, hW1, pu, hb1⟩ := made_blk W0 #[.int .i64 k, .string nm, .slice D1 m d1, .bool ng', .slice D2 ml' d2, .slice D3 n d3] 28
    rw [← hW1]
    rw [hsz0] at pu
    have pt := pt0.below hb1
    have hb1 := below_on hb0 hb1
    clear hW0 hW1 hb0 hBt hsz0 pt0
    obtain ⟨x0, x1, x2, x3, x4, x5⟩ := pt.six
    obtain ⟨y0, y1, y2, y3, y4, y5⟩ := pu.six
    go_upto_region 3 with (go_at_call 41; refine (HNUM.out _ hb1).mono ?_; rintro e w2 ⟨rfl, hb2⟩)
    clear x0 x1 x2 x3 x4 x5 y0 y1 y2 y3 y4 y5
    have pt := pt.below hb2
    have pu := pu.below hb2
    have hb3 := below_on hb1 hb2
    clear hb1 hb2
    obtain ⟨x0, x1, x2, x3, x4, x5⟩ := pt.six
    obtain ⟨y0, y1, y2, y3, y4, y5⟩ := pu.six
    go_wp2_with fail
    go_loopg [5] (m + 1) (fun gk v5 wr => ∃ i : Nat, gk + i = m + 1 ∧ i ≤ m ∧ v5 = .int .i64 (i : Nat) ∧ Below w2.heap.size w2 wr)
    case atStart => exact ⟨0, by omega, Nat.zero_le _, rfl, Below.refl _ _⟩
    case round =>
      clear x0 x1 x2 x3 x4 x5 y0 y1 y2 y3 y4 y5
      obtain ⟨i, hi, hin, rfl, hS⟩ := hrel
      obtain ⟨x0, x1, x2, x3, x4, x5⟩ := (pt.below hS).six
      obtain ⟨y0, y1, y2, y3, y4, y5⟩ := (pu.below hS).six
      by_cases hlt : i < m
      · have hi3 : decide (i < m) = true := decide_eq_true hlt
        obtain ⟨b, o, rfl, _, hc⟩ := HNS.out (by omega)
        obtain ⟨b', o', rfl, _, hc'⟩ := HNS'.out (by omega)
        have e0 := keep_cell (hc i hlt) (below_on hb3 hS)
        have e1 := keep_cell (hc' i hlt) (below_on hb3 hS)
        obtain ⟨z, hz⟩ : ∃ z, t.ns.getD i ⟨#[]⟩ = z := ⟨_, rfl⟩
        rw [hz] at e0 e1
        have hi0 : (0 : Int) ≤ i := by omega
        have hi1 : (i : Int) < m := by omega
        clear hc hc' hz
        go_wp2_with fail
        go_quiet (fail)
        go_wp2_with fail
        go_roundg (m - i)
        case measure => omega
        case rel => exact ⟨i + 1, by omega, by omega, by go_num, below_drewN hS _⟩
      · have hi3 : decide (i < m) = false := decide_eq_false hlt
        obtain rfl : i = m := by omega
        have pt := pt.below hS
        have pu := pu.below hS
        have hb4 := below_on hb3 hS
        obtain ⟨wq, hwq⟩ : ∃ w', w' = wr := ⟨_, rfl⟩
        rw [← hwq] at pt pu hb4 x0 x1 x2 x3 x4 x5 y0 y1 y2 y3 y4 y5 ⊢
        clear hS hwq hb3
        go_wp2_with fail
        go_loopg [6] (n + 1) (fun gk v6 wr => ∃ j : Nat, gk + j = n + 1 ∧ j ≤ n ∧ v6 = .int .i64 (j : Nat) ∧ Below wq.heap.size wq wr)
        case atStart => exact ⟨0, by omega, Nat.zero_le _, rfl, Below.refl _ _⟩
        case round =>
          clear x0 x1 x2 x3 x4 x5 y0 y1 y2 y3 y4 y5
          obtain ⟨j, hj, hjn, rfl, hS⟩ := hrel
          have x5 := (pt.below hS).six.2.2.2.2.2
          have y5 := (pu.below hS).six.2.2.2.2.2
          by_cases hlt : j < n
          · have hi3 : decide (j < n) = true := decide_eq_true hlt
            obtain ⟨b, o, rfl, hk⟩ := HK.out (by omega)
            obtain ⟨b', o', rfl, hk'⟩ := HK'.out (by omega)
            have hkd := (hk j hlt).below (below_on hb4 hS)
            have hkd' := (hk' j hlt).below (below_on hb4 hS)
            have hqk := HQK.out j
            have hub := T.kid_bulk HB.out (show j < t.ks.length by rw [HN.out]; exact hlt)
            have hub' := T.kid_bulk HB'.out (show j < u.ks.length by rw [HN'.out]; exact hlt)
            obtain ⟨a, ha⟩ : ∃ a, t.ks.getD j t0 = a := ⟨_, rfl⟩
            obtain ⟨a', ha'⟩ : ∃ a, u.ks.getD j t0 = a := ⟨_, rfl⟩
            rw [ha] at hkd hqk hub
            rw [ha'] at hkd' hqk hub'
            have HQ := Lib.hid hqk
            clear hk hk' ha ha' hqk
            obtain ⟨B1, b1, B2, b2, B3, b3, h6, hkin⟩ := hkd
            obtain ⟨G1, g1, G2, g2, G3, g3, h6', hkin'⟩ := hkd'
            obtain ⟨e0, e1, e2, e3, e4, e5⟩ := h6
            obtain ⟨f0, f1, f2, f3, f4, f5⟩ := h6'
            have HI := Lib.hid (fun (w' : World) (hb : Below wr.heap.size wr w') => hkin.below hb)
            have HI' := Lib.hid (fun (w' : World) (hb : Below wr.heap.size wr w') => hkin'.below hb)
            have hi0 : (0 : Int) ≤ j := by omega
            have hi1 : (j : Int) < n := by omega
            have hS0 : ∀ w', Below wr.heap.size wr w' → (fun w' => (w'.cell? ⟨Bt, 5, none⟩ = some (.slice (some ⟨b, o, none⟩) n c3) ∧ w'.cell? ⟨Bt + 1, 5, none⟩ = some (.slice (some ⟨b', o', none⟩) n d3) ∧ w'.cell? ⟨b, o + j * 6, none⟩ = some (.int .i64 a.k) ∧ w'.cell? ⟨b, o + j * 6 + 1, none⟩ = some (.string a.nm) ∧ w'.cell? ⟨b, o + j * 6 + 2, none⟩ = some (.slice B1 a.ns.length b1) ∧ w'.cell? ⟨b, o + j * 6 + 3, none⟩ = some (.bool a.ng) ∧ w'.cell? ⟨b, o + j * 6 + 4, none⟩ = some (.slice B2 a.mg.length b2) ∧ w'.cell? ⟨b, o + j * 6 + 5, none⟩ = some (.slice B3 a.ks.length b3) ∧ w'.cell? ⟨b', o' + j * 6, none⟩ = some (.int .i64 a'.k) ∧ w'.cell? ⟨b', o' + j * 6 + 1, none⟩ = some (.string a'.nm) ∧ w'.cell? ⟨b', o' + j * 6 + 2, none⟩ = some (.slice G1 a'.ns.length g1) ∧ w'.cell? ⟨b', o' + j * 6 + 3, none⟩ = some (.bool a'.ng) ∧ w'.cell? ⟨b', o' + j * 6 + 4, none⟩ = some (.slice G2 a'.mg.length g2) ∧ w'.cell? ⟨b', o' + j * 6 + 5, none⟩ = some (.slice G3 a'.ks.length g3)) ∧ Below wr.heap.size wr w') w' := fun w' h =>
              ⟨⟨keep_cell x5 h, keep_cell y5 h, keep_cell e0 h, keep_cell e1 h, keep_cell e2 h, keep_cell e3 h, keep_cell e4 h, keep_cell e5 h, keep_cell f0 h, keep_cell f1 h, keep_cell f2 h, keep_cell f3 h, keep_cell f4 h, keep_cell f5 h⟩, h⟩
            have HS0 := Lib.hid hS0
            have HSW := Lib.hid hS
            clear hkin hkin' hS0 hS
            go_upto_region 11 with (fail)
            have hS : Below wr.heap.size wr wr := Below.refl _ _
            clear x5 y5 e0 e1 e2 e3 e4 e5 f0 f1 f2 f3 f4 f5
            go_region_held3 (fun w' => (w'.cell? ⟨Bt, 5, none⟩ = some (.slice (some ⟨b, o, none⟩) n c3) ∧ w'.cell? ⟨Bt + 1, 5, none⟩ = some (.slice (some ⟨b', o', none⟩) n d3) ∧ w'.cell? ⟨b, o + j * 6, none⟩ = some (.int .i64 a.k) ∧ w'.cell? ⟨b, o + j * 6 + 1, none⟩ = some (.string a.nm) ∧ w'.cell? ⟨b, o + j * 6 + 2, none⟩ = some (.slice B1 a.ns.length b1) ∧ w'.cell? ⟨b, o + j * 6 + 3, none⟩ = some (.bool a.ng) ∧ w'.cell? ⟨b, o + j * 6 + 4, none⟩ = some (.slice B2 a.mg.length b2) ∧ w'.cell? ⟨b, o + j * 6 + 5, none⟩ = some (.slice B3 a.ks.length b3) ∧ w'.cell? ⟨b', o' + j * 6, none⟩ = some (.int .i64 a'.k) ∧ w'.cell? ⟨b', o' + j * 6 + 1, none⟩ = some (.string a'.nm) ∧ w'.cell? ⟨b', o' + j * 6 + 2, none⟩ = some (.slice G1 a'.ns.length g1) ∧ w'.cell? ⟨b', o' + j * 6 + 3, none⟩ = some (.bool a'.ng) ∧ w'.cell? ⟨b', o' + j * 6 + 4, none⟩ = some (.slice G2 a'.mg.length g2) ∧ w'.cell? ⟨b', o' + j * 6 + 5, none⟩ = some (.slice G3 a'.ks.length g3)) ∧ Below wr.heap.size wr w')
              (first | exact HS0.out _ (by with_reducible assumption) | exact HS0.out _ (Below.drew (by with_reducible assumption)))
              (first
                | (go_at_call 13; refine (ih a a' _ R R' _ _ hub hub' (by omega) HQ.out (HI.out _ (s_below (by with_reducible assumption))) (HI'.out _ (s_below (by with_reducible assumption)))).mono ?_; rintro e wn ⟨rfl, hb⟩; have hS2 := below_on (s_below (by with_reducible assumption)) hb; clear hS; have hS := hS2; clear hS2 hb))
            replace hS := below_on HSW.out hS
            go_wp2_with fail
            go_roundg (n - j)
            case measure => omega
            case rel => exact ⟨j + 1, by omega, by omega, by go_num, hS⟩
          · have hi3 : decide (j < n) = false := decide_eq_false hlt
            obtain rfl : j = n := by omega
            go_wp2_with fail
            go_ret
            exact ⟨rfl, below_on hb4 hS⟩
end Go.Proofs.YthiadenmljbdaaaGreatDoor
end
