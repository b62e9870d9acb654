/-
  The store in plain words: a list of names and trees, rising; how it stands in a map.
-/
import Derived.Test.YtmncamnlmpajbaaSCopy
import Derived.Test.YtmncamnlmpajbaaSCheck
import Derived.Test.YtmncamnlmpajbaaSSize
import Derived.Maps.OwnSet
import Derived.Sort.KeysCollected
namespace Go.Proofs.Ytmncamnlmpajbaa
open Go.RowKit Go.Maps

abbrev Kl := List (ByteArray × T)
def sz (t : T) : Nat := min t.size 3001
def total (L : Kl) : Nat := (L.map (fun p => sz p.2)).sum
def Rising (L : Kl) : Prop := L.Pairwise (fun p q => p.1.data.toList < q.1.data.toList)
theorem str_tri (a b : ByteArray) : a.data.toList < b.data.toList ∨ a = b ∨ b.data.toList < a.data.toList := by
  rcases List.le_total a.data.toList b.data.toList with h | h
  · rcases Std.le_iff_lt_or_eq.1 h with h | h
    · exact .inl h
    · exact .inr (.inl (ByteArray.ext (Array.toList_inj.1 h)))
  · rcases Std.le_iff_lt_or_eq.1 h with h | h
    · exact .inr (.inr h)
    · exact .inr (.inl (ByteArray.ext (Array.toList_inj.1 h)).symm)
theorem str_ne {a b : ByteArray} (h : a.data.toList < b.data.toList) : a ≠ b := fun e => by subst e; exact List.lt_irrefl _ h
def lget (nm : ByteArray) : Kl → Option T
  | [] => none
  | (a, u) :: r => if a = nm then some u else lget nm r
def ldel (nm : ByteArray) (L : Kl) : Kl := L.filter (fun p => decide (p.1 ≠ nm))
def lput (nm : ByteArray) (t : T) : Kl → Kl
  | [] => [(nm, t)]
  | (a, u) :: r => if a.data.toList < nm.data.toList then (a, u) :: lput nm t r else if a = nm then (nm, t) :: r else (nm, t) :: (a, u) :: r
theorem lget_mem {nm : ByteArray} {t : T} : ∀ {L : Kl}, lget nm L = some t → (nm, t) ∈ L
  | [], h => by cases h
  | (a, u) :: r, h => by
    unfold lget at h
    split at h
    · rename_i e
      injection h with h
      subst e; subst h
      exact List.mem_cons_self
    · exact List.mem_cons_of_mem _ (lget_mem h)
theorem lget_none {nm : ByteArray} : ∀ {L : Kl}, lget nm L = none → ∀ p ∈ L, p.1 ≠ nm
  | [], _, p, hp => by cases hp
  | (a, u) :: r, h, p, hp => by
    unfold lget at h
    split at h
    · cases h
    · rename_i e
      rcases List.mem_cons.1 hp with rfl | hp
      · exact e
      · exact lget_none h p hp
theorem lget_of_mem {nm : ByteArray} {t : T} : ∀ {L : Kl}, Rising L → (nm, t) ∈ L → lget nm L = some t
  | [], _, h => by cases h
  | (a, u) :: r, hr, h => by
    obtain ⟨h1, h2⟩ := List.pairwise_cons.1 hr
    unfold lget
    rcases List.mem_cons.1 h with h | h
    · injection h with e1 e2
      subst e1; subst e2
      rw [if_pos rfl]
    · have := str_ne (h1 _ h)
      rw [if_neg this]
      exact lget_of_mem h2 h
theorem lput_perm (nm : ByteArray) (t : T) : ∀ (L : Kl), Rising L → (lput nm t L).Perm ((nm, t) :: ldel nm L)
  | [], _ => by simp [lput, ldel]
  | (a, u) :: r, hr => by
    obtain ⟨h1, h2⟩ := List.pairwise_cons.1 hr
    unfold lput
    by_cases hlt : a.data.toList < nm.data.toList
    · have hne := str_ne hlt
      rw [if_pos hlt]
      have : ldel nm ((a, u) :: r) = (a, u) :: ldel nm r := by simp [ldel, hne]
      rw [this]
      exact ((lput_perm nm t r h2).cons _).trans (List.Perm.swap _ _ _)
    · rw [if_neg hlt]
      by_cases he : a = nm
      · rw [if_pos he]
        subst he
        have : ldel a ((a, u) :: r) = r := by
          simp only [ldel, ne_eq, not_true_eq_false, decide_false, Bool.false_eq_true, not_false_eq_true, List.filter_cons_of_neg]
          rw [List.filter_eq_self.2]
          intro p hp
          have := str_ne (h1 p hp)
          simpa using fun e => this e.symm
        rw [this]
      · rw [if_neg he]
        have hgt : nm.data.toList < a.data.toList := by
          rcases str_tri a nm with h | h | h
          · exact absurd h hlt
          · exact absurd h he
          · exact h
        have : ldel nm ((a, u) :: r) = (a, u) :: r := by
          unfold ldel
          rw [List.filter_eq_self.2]
          intro p hp
          rcases List.mem_cons.1 hp with rfl | hp
          · simpa using he
          · have := str_ne (List.lt_trans hgt (h1 p hp))
            simpa using fun e => this e.symm
        rw [this]
theorem ldel_rising {L : Kl} (h : Rising L) (nm : ByteArray) : Rising (ldel nm L) := h.filter _
theorem lput_rising (nm : ByteArray) (t : T) : ∀ (L : Kl), Rising L → Rising (lput nm t L)
  | [], _ => by simp [lput, Rising]
  | (a, u) :: r, hr => by
    obtain ⟨h1, h2⟩ := List.pairwise_cons.1 hr
    unfold lput
    by_cases hlt : a.data.toList < nm.data.toList
    · rw [if_pos hlt]
      refine List.pairwise_cons.2 ⟨fun p hp => ?_, lput_rising nm t r h2⟩
      rcases List.mem_cons.1 ((lput_perm nm t r h2).mem_iff.1 hp) with rfl | hp
      · exact hlt
      · exact h1 p (List.mem_filter.1 hp).1
    · rw [if_neg hlt]
      by_cases he : a = nm
      · rw [if_pos he]
        subst he
        exact List.pairwise_cons.2 ⟨h1, h2⟩
      · rw [if_neg he]
        have hgt : nm.data.toList < a.data.toList := by
          rcases str_tri a nm with h | h | h
          · exact absurd h hlt
          · exact absurd h he
          · exact h
        refine List.pairwise_cons.2 ⟨fun p hp => ?_, hr⟩
        rcases List.mem_cons.1 hp with rfl | hp
        · exact hgt
        · exact List.lt_trans hgt (h1 p hp)
theorem total_perm {L L' : Kl} (h : L.Perm L') : total L = total L' := (h.map _).sum_nat
theorem total_cons (p : ByteArray × T) (L : Kl) : total (p :: L) = sz p.2 + total L := by simp [total]
/-- A name that is there: what is left without it. -/
theorem ldel_here {nm : ByteArray} {t : T} : ∀ {L : Kl}, Rising L → lget nm L = some t → L.Perm ((nm, t) :: ldel nm L)
  | [], _, h => by cases h
  | (a, u) :: r, hr, h => by
    obtain ⟨h1, h2⟩ := List.pairwise_cons.1 hr
    unfold lget at h
    split at h
    · rename_i e
      injection h with h
      subst e; subst h
      have : ldel a ((a, u) :: r) = r := by
        simp only [ldel, ne_eq, not_true_eq_false, decide_false, Bool.false_eq_true, not_false_eq_true, List.filter_cons_of_neg]
        rw [List.filter_eq_self.2]
        intro p hp
        have := str_ne (h1 p hp)
        simpa using fun e => this e.symm
      rw [this]
    · rename_i e
      have : ldel nm ((a, u) :: r) = (a, u) :: ldel nm r := by simp [ldel, e]
      rw [this]
      exact ((ldel_here h2 h).cons _).trans (List.Perm.swap _ _ _)
theorem ldel_away {nm : ByteArray} {L : Kl} (h : lget nm L = none) : ldel nm L = L := by
  unfold ldel
  rw [List.filter_eq_self.2]
  intro p hp
  simpa using lget_none h p hp
/-- What the map's reader says of an element: the value itself. -/
def RV (v : Value) : Option (DataW Value × List MemPlace) := some (.held v, [])
/-- A kept tree's cells, and its size. -/
abbrev kw (c : Kc) (n : Nat) : Value := .agg #[c.1, c.2.1, c.2.2.1, c.2.2.2.1, c.2.2.2.2.1, c.2.2.2.2.2, .int .i64 (n : Nat)]
abbrev kw0 : Value := .agg #[.int .i64 0, .string ⟨#[]⟩, .slice none 0 0, .bool false, .slice none 0 0, .slice none 0 0, .int .i64 0]
def kent (C : ByteArray → Kc) (p : ByteArray × T) : Lit × DataW Value := (.string p.1.data.toList, .held (kw (C p.1) (sz p.2)))
/-- The datum D of a map says what L says; the trees lie in w, in blocks of R. -/
def Reps (w : World) (R : Nat → Prop) (D : DataW Value) (L : Kl) : Prop := Rising L ∧ ∃ es C, D = .map es ∧ es.Perm (L.map (kent C)) ∧ ∀ p ∈ L, T.In w R p.2 (kv (C p.1))
theorem key_of {a b : ByteArray} : Lit.sameKey (.string a.data.toList) (.string b.data.toList) = decide (a = b) := by
  by_cases h : a = b
  · subst h
    rw [WideAt.sameKey_self (show WideAt.IsKeyLit (.string a.data.toList) from trivial)]
    simp
  · rw [sameKey_ne (fun e => h (by injection e with e; exact ByteArray.ext (Array.toList_inj.1 e)))]
    simp [h]
theorem find_here {nm : ByteArray} {d : DataW Value} {C : ByteArray → Kc} : ∀ {es : List (Lit × DataW Value)} {L : Kl}, es.Perm (L.map (kent C)) → (∀ p ∈ L, p.1 = nm → .held (kw (C p.1) (sz p.2)) = d) → (∃ p ∈ L, p.1 = nm) → (es.find? (fun p => p.1.sameKey (.string nm.data.toList))) = some (.string nm.data.toList, d) := by
  intro es L hp hd hex
  obtain ⟨p, hpL, hpn⟩ := hex
  have hmem : kent C p ∈ es := hp.mem_iff.2 (List.mem_map.2 ⟨p, hpL, rfl⟩)
  have hsome : (es.find? (fun p => p.1.sameKey (.string nm.data.toList))).isSome = true := List.find?_isSome.2 ⟨kent C p, hmem, by rw [show (kent C p).1 = .string p.1.data.toList from rfl, key_of]; simpa using hpn⟩
  obtain ⟨q, hq⟩ := Option.isSome_iff_exists.1 hsome
  have hqm := List.mem_of_find?_eq_some hq
  have hqk := List.find?_some hq
  obtain ⟨p', hp'L, rfl⟩ := List.mem_map.1 (hp.mem_iff.1 hqm)
  rw [show (kent C p').1 = .string p'.1.data.toList from rfl, key_of] at hqk
  have hn : p'.1 = nm := by simpa using hqk
  rw [hq]
  have := hd p' hp'L hn
  unfold kent
  rw [this, hn]
theorem Reps.here {w : World} {R : Nat → Prop} {D : DataW Value} {L : Kl} (h : Reps w R D L) {nm : ByteArray} {t : T} (hg : lget nm L = some t) :
    ∃ c, D.atKey (.string nm.data.toList) (.held kw0) = .held (kw c (sz t)) ∧ has D (.string nm.data.toList) = true ∧ T.In w R t (kv c) := by
  obtain ⟨hr, es, C, rfl, hp, hin⟩ := h
  have hm := lget_mem hg
  have hf := find_here (nm := nm) (d := .held (kw (C nm) (sz t))) hp (fun p hpL hpn => by
    have hp2 : (nm, p.2) ∈ L := by rw [← hpn]; exact hpL
    have := lget_of_mem hr hp2
    rw [hg] at this
    injection this with this
    rw [hpn, this]) ⟨_, hm, rfl⟩
  refine ⟨C nm, ?_, ?_, hin _ hm⟩
  · simp only [DataW.atKey, hf]
  · rw [has_eq, List.any_eq_true]
    exact ⟨_, List.mem_of_find?_eq_some hf, by rw [key_of]; simp⟩
theorem Reps.away {w : World} {R : Nat → Prop} {D : DataW Value} {L : Kl} (h : Reps w R D L) {nm : ByteArray} (hg : lget nm L = none) :
    D.atKey (.string nm.data.toList) (.held kw0) = .held kw0 ∧ has D (.string nm.data.toList) = false := by
  obtain ⟨hr, es, C, rfl, hp, hin⟩ := h
  have hh : has (.map es) (.string nm.data.toList) = false := by
    rw [has_eq, List.any_eq_false]
    intro p hpe hk
    obtain ⟨p', hp'L, rfl⟩ := List.mem_map.1 (hp.mem_iff.1 hpe)
    rw [show (kent C p').1 = .string p'.1.data.toList from rfl, key_of] at hk
    exact lget_none hg p' hp'L (by simpa using hk)
  exact ⟨atKey_of_not_has hh _, hh⟩
theorem strip_ent (C : ByteArray → Kc) (nm : ByteArray) : ∀ (L : Kl), (L.map (kent C)).filter (fun p => !p.1.sameKey (.string nm.data.toList)) = (ldel nm L).map (kent C)
  | [] => rfl
  | (a, u) :: r => by
    have ih := strip_ent C nm r
    by_cases h : a = nm
    · have h1 : ldel nm ((a, u) :: r) = ldel nm r := by simp [ldel, h]
      rw [h1, ← ih, List.map_cons, List.filter_cons_of_neg]
      rw [show (kent C (a, u)).1 = .string a.data.toList from rfl, key_of]
      simp [h]
    · have h1 : ldel nm ((a, u) :: r) = (a, u) :: ldel nm r := by simp [ldel, h]
      rw [h1, List.map_cons, List.map_cons, ← ih, List.filter_cons_of_pos]
      rw [show (kent C (a, u)).1 = .string a.data.toList from rfl, key_of]
      simp [h]
theorem Reps.del {w : World} {R : Nat → Prop} {D : DataW Value} {L : Kl} (h : Reps w R D L) (nm : ByteArray) : Reps w R (D.del (.string nm.data.toList)) (ldel nm L) := by
  obtain ⟨hr, es, C, rfl, hp, hin⟩ := h
  exact ⟨ldel_rising hr nm, _, C, rfl, by rw [← strip_ent]; exact hp.filter _, fun p hp' => hin p (List.mem_filter.1 hp').1⟩
theorem Reps.put {w : World} {R : Nat → Prop} {D : DataW Value} {L : Kl} (h : Reps w R D L) (nm : ByteArray) {t : T} {c : Kc} (ht : T.In w R t (kv c)) : Reps w R (D.put (.string nm.data.toList) (.held (kw c (sz t)))) (lput nm t L) := by
  obtain ⟨hr, es, C, rfl, hp, hin⟩ := h
  have hpm := lput_perm nm t L hr
  have hC : ∀ p ∈ ldel nm L, (fun a => if a = nm then c else C a) p.1 = C p.1 := fun p hp' => if_neg (by simpa using (List.mem_filter.1 hp').2)
  refine ⟨lput_rising nm t L hr, _, fun a => if a = nm then c else C a, rfl, ?_, ?_⟩
  · refine (WideShapes.insert_perm _ _).trans (List.Perm.trans ?_ (hpm.map _).symm)
    have e1 : (ldel nm L).map (kent fun a => if a = nm then c else C a) = (ldel nm L).map (kent C) := by
      apply List.map_congr_left
      intro p hp'
      unfold kent
      rw [hC p hp']
    have e2 : kent (fun a => if a = nm then c else C a) (nm, t) = (.string nm.data.toList, .held (kw c (sz t))) := by simp [kent]
    rw [List.map_cons, e1, e2, ← strip_ent]
    exact (hp.filter _).cons _
  · intro p hp'
    rcases List.mem_cons.1 (hpm.mem_iff.1 hp') with rfl | hp'
    · simpa using ht
    · rw [hC p hp']
      exact hin p (List.mem_filter.1 hp').1
theorem Reps.size {w : World} {R : Nat → Prop} {D : DataW Value} {L : Kl} (h : Reps w R D L) : Maps.size D = L.length := by
  obtain ⟨hr, es, C, rfl, hp, hin⟩ := h
  rw [size_eq, hp.length_eq, List.length_map]
theorem Reps.keys {w : World} {R : Nat → Prop} {D : DataW Value} {L : Kl} (h : Reps w R D L) : (strKeys D).Perm (L.map (fun p => p.1.data.toList)) := by
  obtain ⟨hr, es, C, rfl, hp, hin⟩ := h
  have := hp.map (fun p => strOf p.1)
  rw [List.map_map] at this
  exact this
theorem Reps.keep {w w' : World} {R R' : Nat → Prop} {D : DataW Value} {L : Kl} (h : Reps w R D L) (hk : ∀ p ∈ L, ∀ v, T.In w R p.2 v → T.In w' R' p.2 v) : Reps w' R' D L := by
  obtain ⟨hr, es, C, rfl, hp, hin⟩ := h
  exact ⟨hr, es, C, rfl, hp, fun p hp' => hk p hp' _ (hin p hp')⟩
theorem Reps.nil (w : World) (R : Nat → Prop) : Reps w R (.map []) [] := ⟨List.Pairwise.nil, [], fun _ => kc0, rfl, List.Perm.refl _, fun p hp => by cases hp⟩
/-- The sorted keys are L's names. -/
theorem Reps.sorted {w : World} {R : Nat → Prop} {D : DataW Value} {L : Kl} (h : Reps w R D L) {ss : List (List UInt8)} (hs : ss.Perm (strKeys D)) : ss.mergeSort (fun x y => decide (x ≤ y)) = L.map (fun p => p.1.data.toList) := by
  have tr : ∀ a b c : List UInt8, leB a b = true → leB b c = true → leB a c = true := fun a b c h1 h2 => by simp only [leB, decide_eq_true_eq] at *; exact List.le_trans h1 h2
  have tl : ∀ a b : List UInt8, (leB a b || leB b a) = true := fun a b => by simp only [leB, Bool.or_eq_true, decide_eq_true_eq]; exact List.le_total a b
  have hr := h.1
  refine List.Perm.eq_of_pairwise (le := fun a b => leB a b = true) (fun a b _ _ h1 h2 => ?_) (List.pairwise_mergeSort tr tl ss) ?_ (((List.mergeSort_perm ss leB).trans hs).trans h.keys)
  · simp only [leB, decide_eq_true_eq] at h1 h2
    exact List.le_antisymm h1 h2
  · refine List.pairwise_map.2 (hr.imp fun h => ?_)
    simp only [leB, decide_eq_true_eq]
    exact Std.le_of_lt h
theorem World.ownsMap.tight {P : Program} {k : TypeId} {R : Value → Option (DataW Value × List MemPlace)} {w : World} {b n : Nat} {D : DataW Value} (h : w.ownsMap P k R b n D) : w.ownsMap P k R b (Maps.size D) D := by
  obtain ⟨es, clock, hb, F, hs, rfl⟩ := h
  refine ⟨es, clock, hb, F, ?_, rfl⟩
  simp [Maps.size, length_sorted]
end Go.Proofs.Ytmncamnlmpajbaa
