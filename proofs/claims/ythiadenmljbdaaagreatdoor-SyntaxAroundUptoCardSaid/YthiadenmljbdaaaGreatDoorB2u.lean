/-
  u: the parts PGo of the proof.
-/
import Derived.Test.YthiadenmljbdaaaGreatDoorB11s
import Derived.Test.YthiadenmljbdaaaGreatDoorB1u
section
namespace Go.Proofs.YthiadenmljbdaaaGreatDoor
namespace P
abbrev Ky := Nat × ByteArray × List Nat
def Cl (c : List Ky) : Prop := c = [] ∨ ∃ r, c = (4, ⟨#[41]⟩, []) :: r
def Sim (c : List Ky) (l l' : List Wd) : Prop := keys l' = keys l ++ c
section
variable {c : List Ky} {l l' : List Wd}
theorem Sim.nil (h : Sim c [] l') : keys l' = c := h
theorem Sim.cons {w : Wd} {l : List Wd} (h : Sim c (w :: l) l') : ∃ p y, l' = (w.1, w.2.1, w.2.2.1, p) :: y ∧ Sim c l y := by
  have h1 : keys l' = (w.1, w.2.1, w.2.2.1) :: (keys l ++ c) := h
  obtain ⟨p, y, h2, h3⟩ := keys_cons h1
  exact ⟨p, y, h2, h3⟩
theorem Sim.end_ (hc : Cl c) (h : Sim c [] l') : l' = [] ∨ ∃ p y, l' = (4, ⟨#[41]⟩, [], p) :: y := by
  rcases hc with rfl | ⟨r, rfl⟩
  · exact .inl (keys_nil h.nil)
  · obtain ⟨p, y, h1, _⟩ := keys_cons h.nil
    exact .inr ⟨p, y, h1⟩
theorem Sim.isW (hc : Cl c) (h : Sim c l l') {s : ByteArray} (hs : decide ((⟨#[41]⟩ : ByteArray) = s) = false) : isW s l' = isW s l := by
  cases l with
  | nil =>
    rcases h.end_ hc with rfl | ⟨p, y, rfl⟩
    · rfl
    · exact hs
  | cons w l =>
    obtain ⟨p, y, rfl, _⟩ := h.cons
    rfl
theorem Sim.no (hc : Cl c) (h : Sim c l l') {s : ByteArray} (hs : decide ((⟨#[41]⟩ : ByteArray) = s) = false) (hw : ¬ P.isW s l = true) : P.isW s l' = false := by
  rw [h.isW hc hs]
  exact Bool.eq_false_iff.2 hw
theorem Sim.yes (h : Sim c l l') {s : ByteArray} (hw : P.isW s l = true) : P.isW s l' = true := by
  obtain ⟨w, q, rfl, _⟩ := isW_cons hw
  obtain ⟨p, y, rfl, _⟩ := h.cons
  exact hw
theorem Sim.tail (h : Sim c l l') (hl : l ≠ []) : Sim c l.tail l'.tail := by
  cases l with
  | nil => exact absurd rfl hl
  | cons w l =>
    obtain ⟨p, y, rfl, hy⟩ := h.cons
    exact hy
theorem ne_of_isW {s : ByteArray} (h : P.isW s l = true) : l ≠ [] := fun e => by subst e; cases h
theorem ne_of_kd {k : Nat} (h : kd l = k) (hk : k ≠ 0) : l ≠ [] := fun e => by subst e; exact hk h.symm
theorem Sim.kd (h : Sim c l l') (hl : l ≠ []) : kd l' = kd l := by
  cases l with
  | nil => exact absurd rfl hl
  | cons w l =>
    obtain ⟨p, y, rfl, _⟩ := h.cons
    rfl
theorem Sim.kd_ne (hc : Cl c) (h : Sim c l l') {k : Nat} (hk : P.kd l ≠ k) (h4 : k ≠ 4) (h0 : k ≠ 0) : P.kd l' ≠ k := by
  cases l with
  | nil =>
    rcases h.end_ hc with rfl | ⟨p, y, rfl⟩
    · exact fun e => h0 e.symm
    · exact fun e => h4 e.symm
  | cons w l =>
    obtain ⟨p, y, rfl, _⟩ := h.cons
    exact hk
theorem Sim.mg (h : Sim c l l') (hl : l ≠ []) : mg l' = mg l := by
  cases l with
  | nil => exact absurd rfl hl
  | cons w l =>
    obtain ⟨p, y, rfl, _⟩ := h.cons
    rfl
theorem Sim.tx (h : Sim c l l') (hl : l ≠ []) : tx l' = tx l := by
  cases l with
  | nil => exact absurd rfl hl
  | cons w l =>
    obtain ⟨p, y, rfl, _⟩ := h.cons
    rfl
theorem Sim.sign (hc : Cl c) (h : Sim c l l') : sign l' = sign l := by
  unfold P.sign
  rw [h.isW hc rfl, h.isW hc rfl, h.isW hc rfl, h.isW hc rfl, h.isW hc rfl, h.isW hc rfl]
theorem Sim.names (hc : Cl c) : ∀ {l l' : List Wd}, Sim c l l' → nms l' = nms l ∧ Sim c (beh l) (beh l')
  | [], l', h => by
    rcases h.end_ hc with rfl | ⟨p, y, rfl⟩
    · exact ⟨rfl, h⟩
    · exact ⟨rfl, h⟩
  | w :: l, l', h => by
    obtain ⟨p, y, rfl, hy⟩ := h.cons
    obtain ⟨h1, h2⟩ := Sim.names hc hy
    by_cases hw : (w.1 == 2) = true
    · have hw2 : (((w.1, w.2.1, w.2.2.1, p) : Wd).1 == 2) = true := hw
      unfold nms at h1 ⊢
      unfold beh at h2 ⊢
      rw [List.takeWhile_cons_of_pos (p := fun t : Wd => t.1 == 2) hw, List.dropWhile_cons_of_pos (p := fun t : Wd => t.1 == 2) hw, List.takeWhile_cons_of_pos (p := fun t : Wd => t.1 == 2) hw2, List.dropWhile_cons_of_pos (p := fun t : Wd => t.1 == 2) hw2]
      exact ⟨by rw [List.map_cons, List.map_cons, h1], h2⟩
    · have hw2 : ¬ (((w.1, w.2.1, w.2.2.1, p) : Wd).1 == 2) = true := hw
      unfold nms beh
      rw [List.takeWhile_cons_of_neg (p := fun t : Wd => t.1 == 2) hw, List.dropWhile_cons_of_neg (p := fun t : Wd => t.1 == 2) hw, List.takeWhile_cons_of_neg (p := fun t : Wd => t.1 == 2) hw2, List.dropWhile_cons_of_neg (p := fun t : Wd => t.1 == 2) hw2]
      exact ⟨rfl, h⟩
end
theorem not_true {b : Bool} (h : ¬ b = true) : b = false := Bool.eq_false_iff.2 h
theorem go_on {c : List Ky} (hc : Cl c) (e e' : Nat) : ∀ (f : Nat) (nt : NT) (l : List Wd) (t : T) (r : List Wd), G e f nt l = .ok t r → ∀ l', Sim c l l' → ∃ r', Rds e' nt l' t r' ∧ Sim c r r'
  | 0, _, _, _, _, h => by cases h
  | f + 1, nt, l, t, r, h => by
    have ih := go_on hc e e' f
    intro l' hl
    rw [G_succ] at h
    cases nt with
    | form =>
      obtain ⟨u, s, h1, h2⟩ := Rd.bind_ok h
      obtain ⟨s', a, hs⟩ := ih _ _ _ _ h1 _ hl
      obtain ⟨r', b, hr⟩ := ih _ _ _ _ h2 _ hs
      exact ⟨r', r_form a b, hr⟩
    | formL t0 =>
      unfold step at h
      dsimp only at h
      split at h
      · rename_i hw
        obtain ⟨u, s, h1, h2⟩ := Rd.bind_ok h
        obtain ⟨s', a, hs⟩ := ih _ _ _ _ h1 _ (hl.tail (ne_of_isW hw))
        obtain ⟨r', b, hr⟩ := ih _ _ _ _ h2 _ hs
        exact ⟨r', r_formL1 (hl.yes hw) a b, hr⟩
      · rename_i hw
        injection h with h1 h2
        subst h1 h2
        exact ⟨_, r_formL0 (hl.no hc rfl hw), hl⟩
    | impl =>
      obtain ⟨u, s, h1, h2⟩ := Rd.bind_ok h
      obtain ⟨s', a, hs⟩ := ih _ _ _ _ h1 _ hl
      split at h2
      · rename_i hw
        obtain ⟨v, s2, h3, h4⟩ := Rd.bind_ok h2
        obtain ⟨r', b, hr⟩ := ih _ _ _ _ h3 _ (hs.tail (ne_of_isW hw))
        injection h4 with h5 h6
        subst h5 h6
        exact ⟨r', r_impl1 a (hs.yes hw) b, hr⟩
      · rename_i hw
        injection h2 with h5 h6
        subst h5 h6
        exact ⟨_, r_impl0 a (hs.no hc rfl hw), hs⟩
    | ored =>
      obtain ⟨u, s, h1, h2⟩ := Rd.bind_ok h
      obtain ⟨s', a, hs⟩ := ih _ _ _ _ h1 _ hl
      split at h2
      · rename_i hw
        obtain ⟨r', b, hr⟩ := ih _ _ _ _ h2 _ hs
        exact ⟨r', r_ored1 a (hs.yes hw) b, hr⟩
      · rename_i hw
        injection h2 with h5 h6
        subst h5 h6
        exact ⟨_, r_ored0 a (hs.no hc rfl hw), hs⟩
    | orL ks =>
      unfold step at h
      dsimp only at h
      split at h
      · rename_i hw
        obtain ⟨u, s, h1, h2⟩ := Rd.bind_ok h
        obtain ⟨s', a, hs⟩ := ih _ _ _ _ h1 _ (hl.tail (ne_of_isW hw))
        obtain ⟨r', b, hr⟩ := ih _ _ _ _ h2 _ hs
        exact ⟨r', r_orL1 (hl.yes hw) a b, hr⟩
      · rename_i hw
        injection h with h1 h2
        subst h1 h2
        exact ⟨_, r_orL0 (hl.no hc rfl hw), hl⟩
    | anded =>
      obtain ⟨u, s, h1, h2⟩ := Rd.bind_ok h
      obtain ⟨s', a, hs⟩ := ih _ _ _ _ h1 _ hl
      split at h2
      · rename_i hw
        obtain ⟨r', b, hr⟩ := ih _ _ _ _ h2 _ hs
        exact ⟨r', r_anded1 a (hs.yes hw) b, hr⟩
      · rename_i hw
        injection h2 with h5 h6
        subst h5 h6
        exact ⟨_, r_anded0 a (hs.no hc rfl hw), hs⟩
    | andL ks =>
      unfold step at h
      dsimp only at h
      split at h
      · rename_i hw
        obtain ⟨u, s, h1, h2⟩ := Rd.bind_ok h
        obtain ⟨s', a, hs⟩ := ih _ _ _ _ h1 _ (hl.tail (ne_of_isW hw))
        obtain ⟨r', b, hr⟩ := ih _ _ _ _ h2 _ hs
        exact ⟨r', r_andL1 (hl.yes hw) a b, hr⟩
      · rename_i hw
        injection h with h1 h2
        subst h1 h2
        exact ⟨_, r_andL0 (hl.no hc rfl hw), hl⟩
    | notted =>
      unfold step at h
      dsimp only at h
      have hbd : ∀ k, l ≠ [] → bound e (G e f) k l.tail = .ok t r → ∃ u r', (nms l'.tail).isEmpty = false ∧ isW ⟨#[46]⟩ (beh l'.tail) = true ∧ Rds e' .form (beh l'.tail).tail u r' ∧ t = .node k ⟨#[]⟩ (nms l'.tail) false [] [u] ∧ Sim c r r' := fun k hne hk => by
        obtain ⟨n1, n2⟩ := Sim.names hc (hl.tail hne)
        unfold bound at hk
        split at hk
        · exact (wrong_ok hk).elim
        · rename_i hq
          rw [Bool.or_eq_true, not_or] at hq
          have q2 : isW ⟨#[46]⟩ (beh l.tail) = true := by simpa using hq.2
          obtain ⟨u, s, h1, h2⟩ := Rd.bind_ok hk
          obtain ⟨s', a, hs⟩ := ih _ _ _ _ h1 _ (n2.tail (ne_of_isW q2))
          injection h2 with h5 h6
          subst h5 h6
          rw [n1]
          exact ⟨u, s', not_true hq.1, n2.yes q2, a, rfl, hs⟩
      split at h
      · rename_i hw
        obtain ⟨u, s, h1, h2⟩ := Rd.bind_ok h
        obtain ⟨s', a, hs⟩ := ih _ _ _ _ h1 _ (hl.tail (ne_of_isW hw))
        injection h2 with h5 h6
        subst h5 h6
        exact ⟨s', r_not (hl.yes hw) a, hs⟩
      · rename_i hw0
        split at h
        · rename_i hw
          obtain ⟨u, r', q1, q2, q3, rfl, q5⟩ := hbd _ (ne_of_isW hw) h
          exact ⟨r', r_some (hl.no hc rfl hw0) (hl.yes hw) q1 q2 q3, q5⟩
        · rename_i hw1
          split at h
          · rename_i hw
            obtain ⟨u, r', q1, q2, q3, rfl, q5⟩ := hbd _ (ne_of_isW hw) h
            exact ⟨r', r_all (hl.no hc rfl hw0) (hl.no hc rfl hw1) (hl.yes hw) q1 q2 q3, q5⟩
          · rename_i hw2
            obtain ⟨s', a, hs⟩ := ih _ _ _ _ h _ hl
            exact ⟨s', r_notted (hl.no hc rfl hw0) (hl.no hc rfl hw1) (hl.no hc rfl hw2) a, hs⟩
    | prim =>
      unfold step at h
      dsimp only at h
      split at h
      · rename_i hw
        injection h with h5 h6
        subst h5 h6
        exact ⟨_, r_true (hl.yes hw), hl.tail (ne_of_isW hw)⟩
      rename_i hw0
      split at h
      · rename_i hw
        injection h with h5 h6
        subst h5 h6
        exact ⟨_, r_false (hl.no hc rfl hw0) (hl.yes hw), hl.tail (ne_of_isW hw)⟩
      rename_i hw1
      split at h
      · rename_i hw
        obtain ⟨u, s, h1, h2⟩ := Rd.bind_ok h
        obtain ⟨s', a, hs⟩ := ih _ _ _ _ h1 _ (hl.tail (ne_of_isW hw))
        split at h2
        · rename_i hp
          injection h2 with h5 h6
          subst h5 h6
          exact ⟨_, r_paren (hl.no hc rfl hw0) (hl.no hc rfl hw1) (hl.yes hw) a (hs.yes hp), hs.tail (ne_of_isW hp)⟩
        · exact (wrong_ok h2).elim
      rename_i hw2
      split at h
      · rename_i hd
        rw [Bool.and_eq_true, beq_iff_eq] at hd
        split at h
        · cases h
        · rename_i hm
          have hne := ne_of_kd hd.1 (by decide)
          obtain ⟨u, s, h1, h2⟩ := Rd.bind_ok h
          obtain ⟨s', a, hs⟩ := ih _ _ _ _ h1 _ ((hl.tail hne).tail (ne_of_isW hd.2))
          injection h2 with h5 h6
          subst h5 h6
          rw [← hl.mg hne] at hm ⊢
          exact ⟨s', r_div (hl.no hc rfl hw0) (hl.no hc rfl hw1) (hl.no hc rfl hw2) ((hl.kd hne).trans hd.1) ((hl.tail hne).yes hd.2) (not_true hm) a, hs⟩
      · rename_i hd
        have hd' : (kd l' == 1 && isW ⟨#[100, 105, 118, 105, 100, 101, 115]⟩ l'.tail) = false := by
          by_cases hk : kd l = 1
          · have hne := ne_of_kd hk (by decide)
            rw [hl.kd hne, (hl.tail hne).isW hc rfl]
            exact not_true hd
          · have := hl.kd_ne hc hk (by decide) (by decide)
            simp [this]
        obtain ⟨u, s, h1, h2⟩ := Rd.bind_ok h
        obtain ⟨s', a, hs⟩ := ih _ _ _ _ h1 _ hl
        split at h2
        · exact (wrong_ok h2).elim
        · rename_i hz
          obtain ⟨v, s2, h3, h4⟩ := Rd.bind_ok h2
          have hne : s ≠ [] := fun e => by subst e; exact hz rfl
          obtain ⟨r', b, hr⟩ := ih _ _ _ _ h3 _ (hs.tail hne)
          injection h4 with h5 h6
          subst h5 h6
          rw [← hs.sign hc] at hz ⊢
          exact ⟨r', r_cmp (hl.no hc rfl hw0) (hl.no hc rfl hw1) (hl.no hc rfl hw2) hd' a hz b, hr⟩
    | sum =>
      obtain ⟨u, s, h1, h2⟩ := Rd.bind_ok h
      obtain ⟨s', a, hs⟩ := ih _ _ _ _ h1 _ hl
      obtain ⟨r', b, hr⟩ := ih _ _ _ _ h2 _ hs
      exact ⟨r', r_sum a b, hr⟩
    | sumL t0 =>
      unfold step at h
      dsimp only at h
      split at h
      · rename_i hw
        obtain ⟨u, s, h1, h2⟩ := Rd.bind_ok h
        obtain ⟨s', a, hs⟩ := ih _ _ _ _ h1 _ (hl.tail (ne_of_isW hw))
        obtain ⟨r', b, hr⟩ := ih _ _ _ _ h2 _ hs
        exact ⟨r', r_sumL1 (hl.yes hw) a b, hr⟩
      · rename_i hw0
        split at h
        · rename_i hw
          obtain ⟨u, s, h1, h2⟩ := Rd.bind_ok h
          obtain ⟨s', a, hs⟩ := ih _ _ _ _ h1 _ (hl.tail (ne_of_isW hw))
          obtain ⟨r', b, hr⟩ := ih _ _ _ _ h2 _ hs
          exact ⟨r', r_sumL2 (hl.no hc rfl hw0) (hl.yes hw) a b, hr⟩
        · rename_i hw
          injection h with h1 h2
          subst h1 h2
          exact ⟨_, r_sumL0 (hl.no hc rfl hw0) (hl.no hc rfl hw), hl⟩
    | oper =>
      unfold step at h
      dsimp only at h
      split at h
      · rename_i hw
        obtain ⟨u, s, h1, h2⟩ := Rd.bind_ok h
        obtain ⟨s', a, hs⟩ := ih _ _ _ _ h1 _ (hl.tail (ne_of_isW hw))
        injection h2 with h5 h6
        subst h5 h6
        exact ⟨s', r_neg (hl.yes hw) a, hs⟩
      rename_i hw0
      split at h
      · rename_i hw
        obtain ⟨u, s, h1, h2⟩ := Rd.bind_ok h
        obtain ⟨s', a, hs⟩ := ih _ _ _ _ h1 _ (hl.tail (ne_of_isW hw))
        split at h2
        · rename_i hp
          injection h2 with h5 h6
          subst h5 h6
          exact ⟨_, r_opar (hl.no hc rfl hw0) (hl.yes hw) a (hs.yes hp), hs.tail (ne_of_isW hp)⟩
        · exact (wrong_ok h2).elim
      rename_i hw1
      split at h
      · rename_i hk
        have hne := ne_of_kd hk (by decide)
        injection h with h5 h6
        subst h5 h6
        rw [← hl.tx hne]
        exact ⟨_, r_var (hl.no hc rfl hw0) (hl.no hc rfl hw1) ((hl.kd hne).trans hk), hl.tail hne⟩
      split at h
      · rename_i hk
        have hne := ne_of_kd hk (by decide)
        split at h
        · rename_i hm
          obtain ⟨u, s, h1, h2⟩ := Rd.bind_ok h
          obtain ⟨s', a, hs⟩ := ih _ _ _ _ h1 _ ((hl.tail hne).tail (ne_of_isW hm))
          injection h2 with h5 h6
          subst h5 h6
          rw [← hl.mg hne]
          exact ⟨s', r_mul (hl.no hc rfl hw0) (hl.no hc rfl hw1) ((hl.kd hne).trans hk) ((hl.tail hne).yes hm) a, hs⟩
        · rename_i hm
          injection h with h5 h6
          subst h5 h6
          rw [← hl.mg hne]
          exact ⟨_, r_num (hl.no hc rfl hw0) (hl.no hc rfl hw1) ((hl.kd hne).trans hk) ((hl.tail hne).no hc rfl hm), hl.tail hne⟩
      · exact (wrong_ok h).elim
theorem rds_of_read {e : Nat} {l : List Wd} {t : T} (h : read e l = .ok t []) : G e (fuel l) .form l = .ok t [] := by
  unfold read at h
  generalize G e (fuel l) .form l = X at h
  cases X with
  | out => cases h
  | bad c p => cases h
  | ok u s =>
    cases s with
    | nil => exact h
    | cons w s => exact (wrong_ok (e := e) (l := w :: s) h).elim
theorem read_of_rds {e : Nat} {l : List Wd} {t : T} (h : Rds e .form l t []) : read e l = .ok t [] := by
  obtain ⟨f, hf⟩ := h
  have h2 := G_total e (fuel l) .form l (by simp only [fuel, NT.rank]; omega)
  have h3 := G_one h2 (show G e f .form l ≠ .out by rw [hf]; intro h; cases h)
  unfold read
  rw [h3, hf]
  rfl
theorem paren_rds {e e' : Nat} {l x : List Wd} {t : T} {c : List Ky} (h : read e l = .ok t []) (hx : keys x = (4, ⟨#[40]⟩, []) :: (keys l ++ (4, ⟨#[41]⟩, []) :: c)) : ∃ r, Rds e' .prim x t r ∧ keys r = c ∧ Plain x := by
  obtain ⟨p, y, rfl, hy⟩ := keys_cons hx
  obtain ⟨r', a, hr⟩ := go_on (c := (4, ⟨#[41]⟩, []) :: c) (.inr ⟨_, rfl⟩) e e' _ _ _ _ _ (rds_of_read h) y hy
  obtain ⟨q, z, rfl, hz⟩ := keys_cons hr.nil
  exact ⟨z, r_paren (l := (4, ⟨#[40]⟩, [], p) :: y) rfl rfl rfl a rfl, hz, rfl, rfl, rfl⟩
theorem read_paren {e e' : Nat} {l x : List Wd} {t : T} (h : read e l = .ok t []) (hx : keys x = (4, ⟨#[40]⟩, []) :: (keys l ++ [(4, ⟨#[41]⟩, [])])) : read e' x = .ok t [] := by
  obtain ⟨r, a, hr, h0⟩ := paren_rds (e' := e') h hx
  obtain rfl := keys_nil hr
  exact read_of_rds (r_form (r_impl0 (r_ored0 (r_anded0 (r_notted h0.1 h0.2.1 h0.2.2 a) rfl) rfl) rfl) (r_formL0 rfl))
theorem read_join {e1 e2 e' : Nat} {l1 l2 x : List Wd} {t u : T} {w : ByteArray} {k : Int} (h1 : read e1 l1 = .ok t []) (h2 : read e2 l2 = .ok u [])
    (hk : (w = ⟨#[97, 110, 100]⟩ ∧ k = 17) ∨ (w = ⟨#[111, 114]⟩ ∧ k = 18) ∨ (w = ⟨#[105, 109, 112, 108, 105, 101, 115]⟩ ∧ k = 19) ∨ (w = ⟨#[105, 102, 102]⟩ ∧ k = 20))
    (hx : keys x = (4, ⟨#[40]⟩, []) :: (keys l1 ++ (4, ⟨#[41]⟩, []) :: (3, w, []) :: (4, ⟨#[40]⟩, []) :: (keys l2 ++ [(4, ⟨#[41]⟩, [])]))) : read e' x = .ok (nd k [t, u]) [] := by
  obtain ⟨r, a, hr, a0⟩ := paren_rds (e' := e') h1 hx
  obtain ⟨p, y, rfl, hy⟩ := keys_cons hr
  obtain ⟨r2, b, hr2, b0⟩ := paren_rds (e' := e') h2 hy
  obtain rfl := keys_nil hr2
  have a5 := r_notted a0.1 a0.2.1 a0.2.2 a
  have b5 := r_notted b0.1 b0.2.1 b0.2.2 b
  refine read_of_rds ?_
  rcases hk with ⟨rfl, rfl⟩ | ⟨rfl, rfl⟩ | ⟨rfl, rfl⟩ | ⟨rfl, rfl⟩
  · exact r_form (r_impl0 (r_ored0 (r_anded1 a5 rfl (r_andL1 rfl b5 (r_andL0 rfl))) rfl) rfl) (r_formL0 rfl)
  · exact r_form (r_impl0 (r_ored1 (r_anded0 a5 rfl) rfl (r_orL1 rfl (r_anded0 b5 rfl) (r_orL0 rfl))) rfl) (r_formL0 rfl)
  · exact r_form (r_impl1 (r_ored0 (r_anded0 a5 rfl) rfl) rfl (r_impl0 (r_ored0 (r_anded0 b5 rfl) rfl) rfl)) (r_formL0 rfl)
  · exact r_form (r_impl0 (r_ored0 (r_anded0 a5 rfl) rfl) rfl) (r_formL1 rfl (r_impl0 (r_ored0 (r_anded0 b5 rfl) rfl) rfl) (r_formL0 rfl))
theorem read_not {e e' : Nat} {l x : List Wd} {t : T} (h : read e l = .ok t []) (hx : keys x = (3, ⟨#[110, 111, 116]⟩, []) :: (4, ⟨#[40]⟩, []) :: (keys l ++ [(4, ⟨#[41]⟩, [])])) : read e' x = .ok (nd 16 [t]) [] := by
  obtain ⟨p, y, rfl, hy⟩ := keys_cons hx
  obtain ⟨r, a, hr, h0⟩ := paren_rds (e' := e') h hy
  obtain rfl := keys_nil hr
  exact read_of_rds (r_form (r_impl0 (r_ored0 (r_anded0 (r_not (l := (3, ⟨#[110, 111, 116]⟩, [], p) :: y) rfl (r_notted h0.1 h0.2.1 h0.2.2 a)) rfl) rfl) rfl) (r_formL0 rfl))
end P
end Go.Proofs.YthiadenmljbdaaaGreatDoor
end
