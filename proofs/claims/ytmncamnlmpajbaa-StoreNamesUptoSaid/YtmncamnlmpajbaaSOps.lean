/-
  store.Store: Put, Get, Drop, each in one contract; riddlelaw22.pick.
-/
import Derived.Test.YtmncamnlmpajbaaSPut
import Derived.Test.YtmncamnlmpajbaaSExact
import Derived.Test.YtmncamnlmpajbaaSRSize
namespace Go.Proofs.Ytmncamnlmpajbaa
open Go.RowKit Go.Maps

def putE (nm : ByteArray) (t : T) (L : Kl) : Int := if nameB nm = true then (if t.chk = 0 then (if big nm t L = true then 222 else 0) else t.chk) else 220
def putL (nm : ByteArray) (t : T) (L : Kl) : Kl := if putE nm t L = 0 then lput nm t.cp L else L
def gt (nm : ByteArray) (L : Kl) : T := match lget nm L with | some t => t.cp | none => t0
def dropE (nm : ByteArray) (L : Kl) : Int := if (lget nm L).isSome = true then 0 else 221
theorem T.chk_cases (t : T) : t.chk = 0 ∨ t.chk = 1 ∨ t.chk = 11 ∨ t.chk = 43 := by
  unfold T.chk
  split
  · split
    · exact .inr (.inr (.inl rfl))
    · split
      · exact .inr (.inr (.inr rfl))
      · exact .inl rfl
  · exact .inr (.inl rfl)
section
variable {w : World} {P M : Nat} {R : Nat → Prop} {L : Kl}
theorem put_s (h : StoreAt w P M R L) (nm : ByteArray) (hnm : nm.size ≤ 1048576) (t : T) (v : Value) (R0 : Nat → Prop) (hbt : t.bulk ≤ 1048576) (ht : T.In w R0 t v) (hRn : ∀ b, w.heap.size ≤ b → R b) :
    Calls Try.prog 20 #[.pointer (some ⟨P, 0, none⟩), .string nm, v] w fun e w' => e = .returned (.int .i64 (putE nm t L)) ∧ StoreAt w' P M R (putL nm t L) ∧ Tur w w' P M := by
  cases hnb : nameB nm with
  | false =>
    have e : putE nm t L = 220 := by unfold putE; rw [hnb]; rfl
    have e2 : putL nm t L = L := by unfold putL; rw [e]; rfl
    rw [e, e2]
    refine (put_noname h nm hnm t v R0 hbt ht hnb).mono ?_
    rintro e w' ⟨rfl, hb⟩
    exact ⟨rfl, h.below hb, Tur.of_below hb⟩
  | true =>
    by_cases hc : t.chk = 0
    · cases hbg : big nm t L with
      | true =>
        have e : putE nm t L = 222 := by unfold putE; rw [hnb, hc, hbg]; rfl
        have e2 : putL nm t L = L := by unfold putL; rw [e]; rfl
        rw [e, e2]
        refine (put_full h nm hnm t v R0 hbt ht hnb hc hbg).mono ?_
        rintro e w' ⟨rfl, hb⟩
        exact ⟨rfl, h.below hb, Tur.of_below hb⟩
      | false =>
        have e : putE nm t L = 0 := by unfold putE; rw [hnb, hc, hbg]; rfl
        have e2 : putL nm t L = lput nm t.cp L := by unfold putL; rw [e]; rfl
        rw [e, e2]
        exact put_ok h nm hnm t v R0 hbt ht hnb hc hbg hRn
    · have e : putE nm t L = t.chk := by unfold putE; rw [hnb, if_pos rfl, if_neg hc]
      have e2 : putL nm t L = L := by unfold putL; rw [e, if_neg hc]
      rw [e, e2]
      refine (put_bad h nm hnm t v R0 hbt ht hnb hc).mono ?_
      rintro e w' ⟨rfl, hb⟩
      exact ⟨rfl, h.below hb, Tur.of_below hb⟩
theorem get_s (h : StoreAt w P M R L) (nm : ByteArray) (hnm : nm.size ≤ 1048576) :
    Calls Try.prog 19 #[.pointer (some ⟨P, 0, none⟩), .string nm] w fun e w' => ∃ A1 c1 A2 c2 A3 c3, e = .returned (.tuple #[tv (gt nm L).k (gt nm L).nm A1 (gt nm L).ns.length c1 (gt nm L).ng A2 (gt nm L).mg.length c2 A3 (gt nm L).ks.length c3, .bool (lget nm L).isSome]) ∧
      T.In w' (fun b => w.heap.size ≤ b) (gt nm L) (tv (gt nm L).k (gt nm L).nm A1 (gt nm L).ns.length c1 (gt nm L).ng A2 (gt nm L).mg.length c2 A3 (gt nm L).ks.length c3) ∧ Below w.heap.size w w' := by
  cases hg : lget nm L with
  | none =>
    have e : gt nm L = t0 := by unfold gt; rw [hg]
    rw [e]
    refine (get_away h nm hnm hg).mono ?_
    rintro e w' ⟨rfl, hb⟩
    refine ⟨none, 0, none, 0, none, 0, rfl, ?_, hb⟩
    simp only [t0, T.In]
    exact ⟨none, 0, none, 0, none, 0, rfl, ⟨Nat.le_refl _, fun h => absurd h (by simp)⟩, ⟨Sl.nil _ _ _, fun h => absurd h (by simp)⟩, Nat.le_refl _, fun h => absurd h (by simp)⟩
  | some t =>
    have e : gt nm L = t.cp := by unfold gt; rw [hg]
    rw [e]
    refine (get_here h nm hnm hg).mono ?_
    rintro e w' ⟨c, rfl, hN, hb⟩
    have hin := T.New.In t.cp _ _ c (fun b => w.heap.size ≤ b) hN (fun b h1 _ => h1)
    obtain ⟨A1, c1, A2, c2, A3, c3, rfl⟩ := hN.form
    exact ⟨A1, c1, A2, c2, A3, c3, rfl, hin, hb⟩
theorem drop_s (h : StoreAt w P M R L) (nm : ByteArray) (hnm : nm.size ≤ 1048576) :
    Calls Try.prog 23 #[.pointer (some ⟨P, 0, none⟩), .string nm] w fun e w' => e = .returned (.int .i64 (dropE nm L)) ∧ StoreAt w' P M R (ldel nm L) ∧ Tur w w' P M := by
  cases hg : lget nm L with
  | none =>
    have e : dropE nm L = 221 := by unfold dropE; rw [hg]; rfl
    rw [e, ldel_away hg]
    refine (drop_away h nm hnm hg).mono ?_
    rintro e w' ⟨rfl, hb⟩
    exact ⟨rfl, h.below hb, Tur.of_below hb⟩
  | some t =>
    have e : dropE nm L = 0 := by unfold dropE; rw [hg]; rfl
    rw [e]
    exact drop_here h nm hnm hg
end
/-- pick's answer. -/
def pk (c n : Int) : Int := if c < 0 then (wrap64 (-wrap64 (c + 1))).tmod n else c % n
theorem pick_l (w : World) (c n : Int) (hn : 0 < n) : Calls Try.prog 17 #[.int .i64 c, .int .i64 n] w fun e w' => e = .returned (.int .i64 (pk c n)) ∧ w' = w := by
  have d0 : (n == 0) = false := by simp; omega
  have d1 : (n == -1) = false := by simp; omega
  by_cases h : c < 0
  · have d2 : decide (c < 0) = true := decide_eq_true h
    have HP := Lib.hid (show pk c n = (wrap64 (-wrap64 (c + 1))).tmod n from if_pos h)
    go_enter Try.func17, Try.ntmps17
    go_wp2_with fail
    go_ret
    exact ⟨by rw [HP.out]; rfl, rfl⟩
  · have d2 : decide (c < 0) = false := decide_eq_false h
    have HP := Lib.hid (show pk c n = c % n from if_neg h)
    have h0 : 0 ≤ c := by omega
    go_enter Try.func17, Try.ntmps17
    go_wp2_with fail
    go_ret
    exact ⟨by rw [HP.out]; rfl, rfl⟩
/-- What known puts. -/
def tT : T := .node 7 ⟨#[]⟩ [] false [] []
theorem tT_in (w : World) (R : Nat → Prop) : T.In w R tT (tv 7 ⟨#[]⟩ none 0 0 false none 0 0 none 0 0) := by
  simp only [tT, T.In]
  exact ⟨none, 0, none, 0, none, 0, rfl, ⟨Nat.le_refl _, fun h => absurd h (by simp)⟩, ⟨Sl.nil _ _ _, fun h => absurd h (by simp)⟩, Nat.le_refl _, fun h => absurd h (by simp)⟩
theorem tT_put : putE ⟨#[102]⟩ tT [] = 0 ∧ putL ⟨#[102]⟩ tT [] = [(⟨#[102]⟩, tT)] ∧ total [(⟨#[102]⟩, tT)] = 1 ∧ (gt ⟨#[102]⟩ [(⟨#[102]⟩, tT)]) = tT ∧ (lget ⟨#[102]⟩ [(⟨#[102]⟩, tT)]).isSome = true ∧ dropE ⟨#[102]⟩ [(⟨#[102]⟩, tT)] = 0 ∧ ldel ⟨#[102]⟩ [(⟨#[102]⟩, tT)] = [] ∧ dropE ⟨#[102]⟩ [] = 221 := by
  have h1 : nameB ⟨#[102]⟩ = true := by decide
  have h2 : tT.chk = 0 := by decide
  have h3 : big ⟨#[102]⟩ tT [] = false := by decide
  have h4 : tT.cp = tT := by show T.node 7 ⟨#[]⟩ [] (nrmS false []) (nrm []) [] = _; rfl
  have e : putE ⟨#[102]⟩ tT [] = 0 := by unfold putE; rw [h1, h2, h3]; rfl
  refine ⟨e, by unfold putL; rw [e, h4]; rfl, by decide, by unfold gt; rw [show lget ⟨#[102]⟩ [(⟨#[102]⟩, tT)] = some tT from rfl]; exact h4, rfl, rfl, by decide, rfl⟩
end Go.Proofs.Ytmncamnlmpajbaa
