/-
  The program's store and the document's, side by side: they hold the same list; what keeps them; Put of the document's: contract.
-/
import Derived.Test.YtmncamnlmpajbaaSRPutA
import Derived.Test.YtmncamnlmpajbaaSRDrop
import Derived.Test.YtmncamnlmpajbaaSOwn
namespace Go.Proofs.Ytmncamnlmpajbaa
open Go.RowKit Go.Maps Go.WideMaps

theorem Tur.fr {w w' : World} {P M : Nat} (h : Tur w w' P M) : Fr w w' (fun b => b = P ∨ b = M) := ⟨h.os, h.tape, h.output, h.size, fun b hb hx => h.block b hb (fun e => hx (.inl e)) (fun e => hx (.inr e))⟩
/-- The program's store stays. -/
theorem StoreAt.turn {w w' : World} {P M : Nat} {R R' : Nat → Prop} {L : Kl} {x : Nat → Prop} (h : StoreAt w P M R L) (hF : Fr w w' x) (hP : ¬ x P) (hM : ¬ x M) (hR : ∀ b, b < w.heap.size → R b → R' b ∧ ¬ x b) (hP' : ¬ R' P) (hM' : ¬ R' M) : StoreAt w' P M R' L := by
  obtain ⟨h1, h2, ⟨D, h3, h4⟩, h5, h6, h7, _, _⟩ := h
  refine ⟨h1, hF.blk h2 hP, ⟨D, ?_, h4.keep (fun p _ v hv => hv.turn hF hR)⟩, h5, h6, h7, hP', hM'⟩
  have hlt := h3.lt
  obtain ⟨es, clock, hb, F, hs, hD⟩ := h3
  exact ⟨es, clock, (hF.block M hlt hM).trans hb, F, hs, hD⟩
theorem RSt.row_lo {w : World} {Q B : Nat} {v : Value} {Z : Nat → Prop} {L : Kl} (h : RSt w Q v B Z L) : ∀ k, v.ownBlock = some k → B ≤ k ∧ k < w.heap.size := by
  obtain ⟨_, _, _, _, _, _, _, _, h8, _⟩ := h
  exact own_lo7 h8
/-- The blocks in which the trees may lie. -/
def Mx (w : World) (B : Nat) (v : Value) (Y : Nat → Prop) : Nat → Prop := fun b => B ≤ b ∧ b < w.heap.size ∧ v.ownBlock ≠ some b ∧ Y b
/-- Both stores hold L: P, M the program's; Q, v the document's; their own blocks lie below B, trees from B on, in Y. -/
def Both (w : World) (P M Q B : Nat) (v : Value) (Y : Nat → Prop) (L : Kl) : Prop :=
  StoreAt w P M (Mx w B v Y) L ∧ RSt w Q v B Y L ∧ P < B ∧ M < B ∧ Q ≠ P ∧ Q ≠ M ∧ B ≤ w.heap.size ∧ ∀ p ∈ L, p.2.cp = p.2
/-- What a step may write: the stores' own blocks. -/
def Hit (P M Q : Nat) (v : Value) : Nat → Prop := fun b => b = P ∨ b = M ∨ b = Q ∨ v.ownBlock = some b
section
variable {w w' : World} {P M Q B : Nat} {v : Value} {Y : Nat → Prop} {L : Kl}
theorem Both.fr (h : Both w P M Q B v Y L) {x : Nat → Prop} (hF : Fr w w' x) (hP : ¬ x P) (hM : ¬ x M) (hQ : ¬ x Q) (hv : ∀ b, v.ownBlock = some b → ¬ x b) (hY : ∀ b, b < w.heap.size → B ≤ b → v.ownBlock ≠ some b → Y b → ¬ x b) : Both w' P M Q B v Y L := by
  obtain ⟨h1, h2, h3, h4, h5, h6, h7, h8⟩ := h
  have hs := hF.size
  exact ⟨h1.turn hF hP hM (fun b hb hR => ⟨⟨hR.1, by omega, hR.2.2⟩, hY b hb hR.1 hR.2.2.1 hR.2.2.2⟩) (fun e => by have := e.1; omega) (fun e => by have := e.1; omega), h2.turn hF hQ hv (fun b hb h1 h2 h3 => ⟨h3, hY b hb h1 h2 h3⟩), h3, h4, h5, h6, by omega, h8⟩
theorem Both.below (h : Both w P M Q B v Y L) (hb : Below w.heap.size w w') : Both w' P M Q B v Y L :=
  h.fr (x := fun _ => False) ((Fr.refl w _).below hb) (fun h => h) (fun h => h) (fun h => h) (fun _ _ h => h) (fun _ _ _ _ _ h => h)
theorem Both.row (h : Both w P M Q B v Y L) : ∀ b, v.ownBlock = some b → B ≤ b ∧ b < w.heap.size := h.2.1.row_lo
theorem lput_cp {nm : ByteArray} {t : T} {L : Kl} (hr : Rising L) (h : ∀ p ∈ L, p.2.cp = p.2) : ∀ p ∈ putL nm t L, p.2.cp = p.2 := by
  intro p hp
  unfold putL at hp
  split at hp
  · rcases List.mem_cons.1 ((lput_perm nm t.cp L hr).mem_iff.1 hp) with rfl | hp
    · exact T.cp_cp t
    · exact h p (List.mem_filter.1 hp).1
  · exact h p hp
theorem ldel_cp {nm : ByteArray} {L : Kl} (h : ∀ p ∈ L, p.2.cp = p.2) : ∀ p ∈ ldel nm L, p.2.cp = p.2 := fun p hp => h p (List.mem_filter.1 hp).1
theorem rput_s (h : RSt w Q v B Y L) (nm : ByteArray) (hnm : nm.size ≤ 1048576) (t : T) (tw : Value) (R0 : Nat → Prop) (hbt : t.bulk ≤ 1048576) (ht : T.In w R0 t tw) (hZn : ∀ b, w.heap.size ≤ b → Y b) (hB : B ≤ w.heap.size) :
    Calls Try.prog 27 #[.pointer (some ⟨Q, 0, none⟩), .string nm, tw] w fun e w' => ∃ v', e = .returned (.int .i64 (putE nm t L)) ∧ RSt w' Q v' B Y (putL nm t L) ∧ Fr w w' (fun b => b = Q ∨ v.ownBlock = some b) ∧ (∀ b, v'.ownBlock = some b → v.ownBlock = some b ∨ w.heap.size ≤ b) := by
  cases hnb : nameB nm with
  | false =>
    have hE : putE nm t L = 220 := by unfold putE; rw [hnb]; rfl
    have hL : putL nm t L = L := putL_no (by rw [hE]; decide)
    rw [hE, hL]
    refine (rput_no h nm hnm t tw R0 hbt ht hnb).mono ?_
    rintro e w' ⟨rfl, hb⟩
    exact ⟨v, rfl, h.below hb, (Fr.refl w _).below hb, fun b e => .inl e⟩
  | true =>
    by_cases hc : t.chk = 0
    · have hE : putE nm t L = if big nm t L = true then 222 else 0 := by unfold putE; rw [hnb, if_pos rfl, if_pos hc]
      have hL : putL nm t L = if big nm t L = true then L else lput nm t.cp L := by
        unfold putL
        rw [hE]
        cases big nm t L <;> rfl
      rw [hE, hL]
      cases hg : lget nm L with
      | some u => exact rput_here h nm hnm t tw R0 hbt ht hZn hB hnb hc hg
      | none => exact rput_away h nm hnm t tw R0 hbt ht hZn hB hnb hc hg
    · have hE : putE nm t L = t.chk := by unfold putE; rw [hnb, if_pos rfl, if_neg hc]
      have hL : putL nm t L = L := putL_no (by rw [hE]; exact hc)
      rw [hE, hL]
      refine (rput_bad h nm hnm t tw R0 hbt ht hnb hc).mono ?_
      rintro e w' ⟨rfl, hb⟩
      exact ⟨v, rfl, h.below hb, (Fr.refl w _).below hb, fun b e => .inl e⟩
/-- What a step leaves. -/
def After (w : World) (P M Q B : Nat) (v : Value) (Y : Nat → Prop) (w' : World) : Prop := ∃ v' L', Both w' P M Q B v' Y L' ∧ Fr w w' (Hit P M Q v) ∧ ∀ b, v'.ownBlock = some b → v.ownBlock = some b ∨ w.heap.size ≤ b
/-- Behind both Puts. -/
theorem after_put (h : Both w P M Q B v Y L) {w1 w2 w4 w5 : World} {v' : Value} {nm : ByteArray} {t : T} (hb1 : Below w.heap.size w w1) (hS : StoreAt w2 P M (fun b => Mx w B v Y b ∨ w1.heap.size ≤ b) (putL nm t L)) (hT : Tur w1 w2 P M) {lo hi : Nat} (hlo : w.heap.size ≤ lo) (hhi : hi ≤ w1.heap.size)
    (hF4 : Fr w2 w4 (fun b => lo ≤ b ∧ b < hi)) (hR : RSt w5 Q v' B Y (putL nm t L)) (hF5 : Fr w4 w5 (fun b => b = Q ∨ v.ownBlock = some b)) (hv' : ∀ b, v'.ownBlock = some b → v.ownBlock = some b ∨ w4.heap.size ≤ b) (hY : ∀ b, w.heap.size ≤ b → Y b) : After w P M Q B v Y w5 := by
  have hrow := h.row
  have hcp := lput_cp (nm := nm) (t := t) h.2.1.2.2.1 h.2.2.2.2.2.2.2
  obtain ⟨h1, h2, h3, h4, h5, h6, h7, h8⟩ := h
  have hQ : Q < B := h2.1
  have s1 := hb1.size
  have s2 := hT.size
  have s4 := hF4.size
  have s5 := hF5.size
  have hF : Fr w2 w5 (fun b => (lo ≤ b ∧ b < hi) ∨ b = Q ∨ v.ownBlock = some b) := (hF4.wide (fun b hb => .inl hb)).step hF5 (fun k hk => .inl (.inr hk))
  refine ⟨v', putL nm t L, ⟨hS.turn hF ?_ ?_ (fun b hb hR => ?_) (fun e => by have := e.1; omega) (fun e => by have := e.1; omega), hR, h3, h4, h5, h6, by omega, hcp⟩, ?_, fun b e => ?_⟩
  · rintro (e | e | e)
    · omega
    · exact h5 e.symm
    · have := hrow _ e; omega
  · rintro (e | e | e)
    · omega
    · exact h6 e.symm
    · have := hrow _ e; omega
  · have hx : ¬ ((lo ≤ b ∧ b < hi) ∨ b = Q ∨ v.ownBlock = some b) := by
      rintro (e | e | e)
      · rcases hR with hR | hR
        · have := hR.2.1; omega
        · omega
      · rcases hR with hR | hR
        · have := hR.1; omega
        · omega
      · rcases hR with hR | hR
        · exact hR.2.2.1 e
        · have := hrow _ e; omega
    refine ⟨⟨?_, by omega, fun e => ?_, ?_⟩, hx⟩
    · rcases hR with hR | hR
      · exact hR.1
      · omega
    · rcases hv' b e with e | e
      · exact hx (.inr (.inr e))
      · omega
    · rcases hR with hR | hR
      · exact hR.2.2.2
      · exact hY b (by omega)
  · have a1 : Fr w w2 (Hit P M Q v) := ((Fr.refl w _).below hb1).step hT.fr (fun k hk => .inl (hk.elim .inl (fun e => .inr (.inl e))))
    exact (a1.step hF4 (fun k hk => .inr (by omega))).step hF5 (fun k hk => .inl (hk.elim (fun e => .inr (.inr (.inl e))) (fun e => .inr (.inr (.inr e)))))
  · rcases hv' b e with e | e
    · exact .inl e
    · exact .inr (by omega)
/-- Behind both Drops. -/
theorem after_drop (h : Both w P M Q B v Y L) {w5 : World} {v' : Value} {nm : ByteArray} (hF : Fr w w5 (fun b => b = P ∨ b = M ∨ b = Q)) (hS : StoreAt w5 P M (Mx w B v Y) (ldel nm L)) (hR : RSt w5 Q v' B Y (ldel nm L)) (hv : ∀ b, v'.ownBlock = some b → v.ownBlock = some b ∨ w.heap.size ≤ b) : After w P M Q B v Y w5 := by
  have hrow := h.row
  have hcp := ldel_cp (nm := nm) h.2.2.2.2.2.2.2
  obtain ⟨h1, h2, h3, h4, h5, h6, h7, h8⟩ := h
  have hs := hF.size
  refine ⟨v', ldel nm L, ⟨hS.turn (x := fun _ => False) (Fr.refl _ _) (fun h => h) (fun h => h) (fun b _ hb => ⟨⟨hb.1, by have := hb.2.1; omega, fun e => ?_, hb.2.2.2⟩, fun h => h⟩) (fun e => by have := e.1; omega) (fun e => by have := e.1; omega), hR, h3, h4, h5, h6, by omega, hcp⟩, hF.wide (fun b hb => by
    rcases hb with e | e | e
    · exact .inl e
    · exact .inr (.inl e)
    · exact .inr (.inr (.inl e))), hv⟩
  rcases hv b e with e | e
  · exact hb.2.2.1 e
  · have := hb.2.1; omega
theorem StoreAt.gt_blk (h : StoreAt w P M Y L) (nm : ByteArray) : (gt nm L).bulk ≤ 1048576 := by
  obtain ⟨_, _, ⟨D, _, hr⟩, _, _, hbk, _⟩ := h
  unfold gt
  cases hg : lget nm L with
  | none => decide
  | some t =>
    obtain ⟨c, _, _, hin⟩ := hr.here hg
    exact Nat.le_trans hin.cp_bulk (hbk _ (lget_mem hg)).1
theorem to_fr {w w' : World} {x : Nat → Prop} (h : Below w.heap.size w w') : Fr w w' x := (Fr.refl w x).below h
end
end Go.Proofs.Ytmncamnlmpajbaa
