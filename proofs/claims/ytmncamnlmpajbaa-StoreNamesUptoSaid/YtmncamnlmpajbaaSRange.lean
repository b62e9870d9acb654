/-
  The law of a range over a store's names.
-/
import Derived.Test.YtmncamnlmpajbaaSNames
namespace Go.Proofs.Ytmncamnlmpajbaa
open Go.RowKit Go.Maps Go.Shelf
attribute [local go_sem] Oper.semAt_some

theorem AbN.mono {B B' : Nat} {w w' : World} (h : AbN B' w w') (hle : B ≤ B') : AbN B w w' := (Fr.refl w _).step h (fun _ hk => .inl ⟨Nat.le_trans hle hk.1, hk.2⟩)
theorem AbN.row {B k : Nat} {w w' : World} {o : Obj} (h : AbN B w w') (hk : w.heap[k]? = some o) (hlt : k < B) : w'.heap[k]? = some o :=
  (h.block k (Array.getElem?_eq_some_iff.1 hk).1 (fun e => by have := e.1; omega)).trans hk
/-- Behind a round's body. -/
def nPost (B0 B : Nat) (E : Nat → Prop) (I : Nat → List ByteArray → World → Prop) (Ix : Code → List ByteArray → World → Prop) (xs : List ByteArray) (W : World) : Exit → Act → World → Prop
  | .normal, _, W' => KeepsFrom B0 W W' ∧ Kb B E W W' ∧ I B xs W'
  | .ret, _, W' => KeepsFrom B0 W W' ∧ Kb B E W W' ∧ Ix .ret xs W'
  | .exit id, _, W' => KeepsFrom B0 W W' ∧ Kb B E W W' ∧ Ix (.exit id) xs W'
  | .goto t, _, W' => KeepsFrom B0 W W' ∧ Kb B E W W' ∧ Ix (.goto t) xs W'
  | .panic _, _, _ => False
  | .outgrown, _, _ => False

set_option maxHeartbeats 1600000 in
/-- A range over a store's names. -/
theorem range_n {n Bs P M : Nat} {R : Nat → Prop} {L : Kl} {g : Operand} {ps : Array Tmp} {assign body : Code} {Q : Exit → Act → World → Prop} {a : Act} {w : World}
    (hg : a.eval g = .func (.func 30) #[] #[.pointer (some ⟨Bs, 0, none⟩)]) (hst : StoreAt w P M R L) (hBs : Blk w Bs 23 #[.pointer (some ⟨P, 0, none⟩)]) (hps : ps.size = 1) (E : Nat → Prop) (hE : ∀ b, E b → b < w.heap.size)
    (I : Nat → List ByteArray → World → Prop) (Ix : Code → List ByteArray → World → Prop) (hI : ∀ B s u u', I B s u → AbN w.heap.size u u' → I B s u') (hIx : ∀ c s u u', Ix c s u → AbN w.heap.size u u' → Ix c s u') (h0 : ∀ u, AbN w.heap.size w u → I u.heap.size [] u)
    (hround : ∀ (m l B : Nat) (r : Loop) (pre : List ByteArray) (x : ByteArray) (W : World) (K : Act → World → Prop), w.heap.size ≤ l → w.heap.size ≤ B → W.heap[l]? = some (.loop r) → I B pre W → Nn (lnames L) pre x →
      (∀ a' W', KeepsFrom w.heap.size W W' → Kb B E W W' → (∀ r', body.wpIn (Fence.wide.inRound l) m Try.prog (nPost w.heap.size B E I Ix (pre ++ [x]) (W'.putObj l (.loop r'))) a' (W'.putObj l (.loop r'))) → K a' W') →
      assign.wpIn (Fence.wide.inRound l) m Try.prog (Exit.then K (fun _ _ _ => False)) { tmps := (ps.zip #[.string x]).foldl (fun t (p, v) => t.setIfInBounds p v) a.tmps, defers := [] } W)
    (hdone : ∀ (D B : Nat) (W : World), w.heap.size ≤ D → w.heap.size ≤ B → I B (lnames L) W → W.heap[D]? = some (.deferred (some [])) → Q .normal { a with defers := { target := .collected D, args := #[] } :: a.defers } W)
    (hstop : ∀ (D : Nat) (c : Code) (k : Nat) (W : World), w.heap.size ≤ D → k ≤ (lnames L).length → Ix c ((lnames L).take k) W → W.heap[D]? = some (.deferred (some [])) → c.wpIn Fence.wide n Try.prog Q { a with defers := { target := .collected D, args := #[] } :: a.defers } W) :
    (Code.rangeFunc g ps assign body).wpIn Fence.wide n Try.prog Q a w := by
  refine wpIn_rangeFunc ?_
  intro fn hfn
  rw [show Fence.wide.round = none from rfl]
  obtain ⟨rec, hrec⟩ : ∃ rec : LoopState → Option Code → Loop, rec = fun st pe => { state := st, pending := pe, fn, tmps := a.tmps, params := ps, assign, body, defers := w.heap.size } := ⟨_, rfl⟩
  obtain ⟨W1, hW1⟩ : ∃ W1, (w.alloc (.deferred (some []))).alloc (.loop (rec .ready none)) = W1 := ⟨_, rfl⟩
  have hL1 : W1.heap[(w.heap.size + 1)]? = some (.loop (rec .ready none)) := by
    rw [← hW1]; have := World.alloc_heap_new (w.alloc (.deferred (some []))) (.loop (rec .ready none)); rwa [World.size_alloc] at this
  have hK1 : W1.heap[w.heap.size]? = some (.deferred (some [])) := by
    rw [← hW1]; exact (Below.heap_alloc _ _ _ (by simp)).trans (World.alloc_heap_new w _)
  have hb1 : Below w.heap.size w W1 := by
    rw [← hW1]; exact (((Below.refl _ w).alloc (Nat.le_refl _) _).alloc (by simp) _)
  have hI1 : ∀ u, AbN W1.heap.size W1 u → I u.heap.size [] u := fun u hu => h0 u ((Fr.refl w _).below hb1 |>.step hu (fun k hk => .inr (Nat.le_trans hb1.size hk.1)))
  have hS1 : w.heap.size ≤ W1.heap.size := hb1.size
  have hltL := (Array.getElem?_eq_some_iff.1 hL1).1
  refine ⟨(w.heap.size + 1), [{ target := .collected w.heap.size, args := #[] }], W1, { target := .fn (.func 30) #[.pointer (some ⟨Bs, 0, none⟩)], args := #[.func (.yield (w.heap.size + 1)) #[] #[]] }, W1, 30,
    #[.func (.yield (w.heap.size + 1)) #[] #[]] ++ #[.pointer (some ⟨Bs, 0, none⟩)], W1, ?_, ?_, ?_, ?_, fun h => (by cases h), ?_⟩
  · rw [← hW1, hrec]; exact run_enterLoop_outer _ _ _ _ _
  · simp only [resolve, hg]
    simp [go_sem]
  · intro f' _; trivial
  · simp [invoke, go_sem]
  · refine CallsIn.mono (names1_in (n - 1) (w.heap.size + 1) Bs E
      (fun B pre W => I B pre W ∧ W.heap[(w.heap.size + 1)]? = some (.loop (rec .ready none)) ∧ W.heap[w.heap.size]? = some (.deferred (some [])))
      (fun _ pre W => ∃ c, Ix c pre W ∧ W.heap[(w.heap.size + 1)]? = some (.loop (rec .done (some c))) ∧ W.heap[w.heap.size]? = some (.deferred (some [])))
      W1 (fun b he => Nat.lt_of_lt_of_le (hE b he) hS1) ?_ ?_ (hst.below hb1) (hBs.below hb1) (fun u hu => ⟨hI1 u hu, hu.row hL1 hltL, hu.row hK1 (by omega)⟩)) ?_
    · rintro B s u u' ⟨hi, hl, hk⟩ hab
      exact ⟨hI _ _ _ _ hi (hab.mono hS1), hab.row hl hltL, hab.row hk (by omega)⟩
    · -- one round
      rintro m B pre x W hB ⟨hi, hl, hk⟩ hnx
      have hy := run_yield (P := Try.prog) (args := #[.string x]) hl (by rw [hrec]; exact hps.symm)
      rw [hrec] at hy
      refine ⟨fn, _, assign, body, hy, roundIn_of_wpIn (F := Fence.wide) hfn (hround m _ B _ pre x W _ (by omega) (by omega) hl hi hnx ?_)⟩
      clear hy
      intro a' Wa hkfa hkma hbd
      replace hl := hkfa.same _ _ (by omega) hl rfl
      replace hk := hkfa.same _ _ (Nat.le_refl _) hk rfl
      have hlt : (w.heap.size + 1) < Wa.heap.size := (Array.getElem?_eq_some_iff.1 hl).1
      refine ⟨_, run_beginRound hl (by rw [hrec]), ?_⟩
      have hl2 : (Wa.putObj (w.heap.size + 1) (.loop { rec .ready none with state := .busy })).heap[(w.heap.size + 1)]? = some (.loop { rec .ready none with state := .busy }) := World.putObj_heap_same hlt
      have hk2 : (Wa.putObj (w.heap.size + 1) (.loop { rec .ready none with state := .busy })).heap[w.heap.size]? = some (.deferred (some [])) := (World.putObj_heap_other (by omega)).trans hk
      refine wpIn_mono (hbd _) ?_
      have fin : ∀ (jump : Option Code) (W3 : World), KeepsFrom w.heap.size (Wa.putObj (w.heap.size + 1) (.loop { rec .ready none with state := .busy })) W3 →
          (Instr.endRound (w.heap.size + 1) jump).run Try.prog W3 = .ok (.bool jump.isNone) (W3.putObj (w.heap.size + 1) (.loop (rec (if jump.isNone then .ready else .done) jump))) ∧
          W3.heap[(w.heap.size + 1)]? = some (.loop { rec .ready none with state := .busy }) ∧
          (W3.putObj (w.heap.size + 1) (.loop (rec (if jump.isNone then .ready else .done) jump))).heap[(w.heap.size + 1)]? = some (.loop (rec (if jump.isNone then .ready else .done) jump)) ∧ (W3.putObj (w.heap.size + 1) (.loop (rec (if jump.isNone then .ready else .done) jump))).heap[w.heap.size]? = some (.deferred (some [])) := fun jump W3 hk3 => by
        have hl3 := hk3.same _ _ (by omega) hl2 rfl
        have := run_endRound (P := Try.prog) jump hl3
        rw [hrec] at this ⊢
        exact ⟨this, by rw [hrec] at hl3; exact hl3, World.putObj_heap_same (Array.getElem?_eq_some_iff.1 hl3).1, (World.putObj_heap_other (by omega)).trans (hk3.same _ _ (Nat.le_refl _) hk2 rfl)⟩
      have hkm : ∀ (o : Obj) (W3 : World), Kb B E (Wa.putObj (w.heap.size + 1) (.loop { rec .ready none with state := .busy })) W3 → W3.heap[(w.heap.size + 1)]? = some (.loop { rec .ready none with state := .busy }) → Kb B E W (W3.putObj (w.heap.size + 1) o) := fun o W3 h hl3 => ((hkma.trans (kb_put _ _ hl rfl)).trans h).trans (kb_put _ _ hl3 rfl)
      rintro e a3 W3 hp
      cases e with
      | normal =>
        obtain ⟨hk3, hkp3, hi3⟩ := hp
        obtain ⟨hr, hl3, hl4, hk4⟩ := fin none W3 hk3
        exact ⟨_, _, hr, .inl ⟨rfl, ⟨hI _ _ _ _ hi3 (abN_put _ _ (by omega) hl3 rfl), hl4, hk4⟩, hkm _ _ hkp3 hl3⟩⟩
      | ret =>
        obtain ⟨hk3, hkp3, hi3⟩ := hp
        obtain ⟨hr, hl3, hl4, hk4⟩ := fin (some .ret) W3 hk3
        exact ⟨_, _, hr, .inr ⟨rfl, ⟨.ret, hIx _ _ _ _ hi3 (abN_put _ _ (by omega) hl3 rfl), hl4, hk4⟩, hkm _ _ hkp3 hl3⟩⟩
      | exit id =>
        obtain ⟨hk3, hkp3, hi3⟩ := hp
        obtain ⟨hr, hl3, hl4, hk4⟩ := fin (some (.exit id)) W3 hk3
        exact ⟨_, _, hr, .inr ⟨rfl, ⟨.exit id, hIx _ _ _ _ hi3 (abN_put _ _ (by omega) hl3 rfl), hl4, hk4⟩, hkm _ _ hkp3 hl3⟩⟩
      | goto t =>
        obtain ⟨hk3, hkp3, hi3⟩ := hp
        obtain ⟨hr, hl3, hl4, hk4⟩ := fin (some (.goto t)) W3 hk3
        exact ⟨_, _, hr, .inr ⟨rfl, ⟨.goto t, hIx _ _ _ _ hi3 (abN_put _ _ (by omega) hl3 rfl), hl4, hk4⟩, hkm _ _ hkp3 hl3⟩⟩
      | panic ch => exact hp.elim
      | outgrown => exact hp.elim
    · -- behind the iterator
      rintro e W2 ⟨⟨v, rfl⟩, (⟨B, hB, hi, hl, hk⟩ | ⟨B, k, hB, hkl, c, hi, hl, hk⟩)⟩
      · exact ⟨none, _, by have := run_endLoop (P := Try.prog) hl (by rw [hrec]; simp); rw [hrec] at this; exact this, hdone _ B _ (Nat.le_refl _) (by omega) (hI _ _ _ _ hi (abN_put _ _ (by omega) hl rfl)) ((World.putObj_heap_other (by omega)).trans hk)⟩
      · exact ⟨some c, _, by have := run_endLoop (P := Try.prog) hl (by rw [hrec]; simp); rw [hrec] at this; exact this, hstop _ c k _ (Nat.le_refl _) hkl (hIx _ _ _ _ hi (abN_put _ _ (by omega) hl rfl)) ((World.putObj_heap_other (by omega)).trans hk)⟩

set_option maxHeartbeats 1600000 in
/-- A range over a store's names, within a round of loop l₀. -/
theorem range_nN {n Bs P M : Nat} {R : Nat → Prop} {L : Kl} {g : Operand} {ps : Array Tmp} {assign body : Code} {Q : Exit → Act → World → Prop} {a : Act} {w : World} {l₀ : Nat} {r₀ : Loop} (hl₀ : w.heap[l₀]? = some (.loop r₀))
    (hg : a.eval g = .func (.func 30) #[] #[.pointer (some ⟨Bs, 0, none⟩)]) (hst : StoreAt w P M R L) (hBs : Blk w Bs 23 #[.pointer (some ⟨P, 0, none⟩)]) (hps : ps.size = 1) (E : Nat → Prop) (hE : ∀ b, E b → b < w.heap.size)
    (I : Nat → List ByteArray → World → Prop) (Ix : Code → List ByteArray → World → Prop) (hI : ∀ B s u u', I B s u → AbN w.heap.size u u' → I B s u') (hIx : ∀ c s u u', Ix c s u → AbN w.heap.size u u' → Ix c s u') (h0 : ∀ u, AbN w.heap.size w u → I u.heap.size [] u)
    (hround : ∀ (m l B : Nat) (r : Loop) (pre : List ByteArray) (x : ByteArray) (W : World) (K : Act → World → Prop), w.heap.size ≤ l → w.heap.size ≤ B → W.heap[l]? = some (.loop r) → I B pre W → Nn (lnames L) pre x →
      (∀ a' W', KeepsFrom w.heap.size W W' → Kb B E W W' → (∀ r', body.wpIn (Fence.wide.inRound l) m Try.prog (nPost w.heap.size B E I Ix (pre ++ [x]) (W'.putObj l (.loop r'))) a' (W'.putObj l (.loop r'))) → K a' W') →
      assign.wpIn (Fence.wide.inRound l) m Try.prog (Exit.then K (fun _ _ _ => False)) { tmps := (ps.zip #[.string x]).foldl (fun t (p, v) => t.setIfInBounds p v) a.tmps, defers := [] } W)
    (hdone : ∀ (B : Nat) (W : World), w.heap.size ≤ B → I B (lnames L) W → Q .normal a W)
    (hstop : ∀ (c : Code) (k : Nat) (W : World), k ≤ (lnames L).length → Ix c ((lnames L).take k) W → c.wpIn (Fence.wide.inRound l₀) n Try.prog Q a W) :
    (Code.rangeFunc g ps assign body).wpIn (Fence.wide.inRound l₀) n Try.prog Q a w := by
  refine wpIn_rangeFunc ?_
  intro fn hfn
  rw [show (Fence.wide.inRound l₀).round = some l₀ from rfl]
  obtain ⟨rec, hrec⟩ : ∃ rec : LoopState → Option Code → Loop, rec = fun st pe => { state := st, pending := pe, fn, tmps := a.tmps, params := ps, assign, body, defers := r₀.defers } := ⟨_, rfl⟩
  obtain ⟨W1, hW1⟩ : ∃ W1, w.alloc (.loop (rec .ready none)) = W1 := ⟨_, rfl⟩
  have hL1 : W1.heap[w.heap.size]? = some (.loop (rec .ready none)) := by
    rw [← hW1]; exact World.alloc_heap_new w _
  have hb1 : Below w.heap.size w W1 := by
    rw [← hW1]; exact ((Below.refl _ w).alloc (Nat.le_refl _) _)
  have hI1 : ∀ u, AbN W1.heap.size W1 u → I u.heap.size [] u := fun u hu => h0 u ((Fr.refl w _).below hb1 |>.step hu (fun k hk => .inr (Nat.le_trans hb1.size hk.1)))
  have hS1 : w.heap.size ≤ W1.heap.size := hb1.size
  have hltL := (Array.getElem?_eq_some_iff.1 hL1).1
  refine ⟨w.heap.size, [], W1, { target := .fn (.func 30) #[.pointer (some ⟨Bs, 0, none⟩)], args := #[.func (.yield w.heap.size) #[] #[]] }, W1, 30,
    #[.func (.yield w.heap.size) #[] #[]] ++ #[.pointer (some ⟨Bs, 0, none⟩)], W1, ?_, ?_, ?_, ?_, fun h => (by cases h), ?_⟩
  · rw [← hW1, hrec]; exact run_enterLoop_inner hl₀ _ _ _ _ _
  · simp only [resolve, hg]
    simp [go_sem]
  · intro f' _; trivial
  · simp [invoke, go_sem]
  · refine CallsIn.mono (names1_in (n - 1) w.heap.size Bs E
      (fun B pre W => I B pre W ∧ W.heap[w.heap.size]? = some (.loop (rec .ready none)))
      (fun _ pre W => ∃ c, Ix c pre W ∧ W.heap[w.heap.size]? = some (.loop (rec .done (some c))))
      W1 (fun b he => Nat.lt_of_lt_of_le (hE b he) hS1) ?_ ?_ (hst.below hb1) (hBs.below hb1) (fun u hu => ⟨hI1 u hu, hu.row hL1 hltL⟩)) ?_
    · rintro B s u u' ⟨hi, hl⟩ hab
      exact ⟨hI _ _ _ _ hi (hab.mono hS1), hab.row hl hltL⟩
    · -- one round
      rintro m B pre x W hB ⟨hi, hl⟩ hnx
      have hy := run_yield (P := Try.prog) (args := #[.string x]) hl (by rw [hrec]; exact hps.symm)
      rw [hrec] at hy
      refine ⟨fn, _, assign, body, hy, roundIn_of_wpIn (F := Fence.wide) hfn (hround m _ B _ pre x W _ (by omega) (by omega) hl hi hnx ?_)⟩
      clear hy
      intro a' Wa hkfa hkma hbd
      replace hl := hkfa.same _ _ (by omega) hl rfl
      
      have hlt : w.heap.size < Wa.heap.size := (Array.getElem?_eq_some_iff.1 hl).1
      refine ⟨_, run_beginRound hl (by rw [hrec]), ?_⟩
      have hl2 : (Wa.putObj w.heap.size (.loop { rec .ready none with state := .busy })).heap[w.heap.size]? = some (.loop { rec .ready none with state := .busy }) := World.putObj_heap_same hlt
      
      refine wpIn_mono (hbd _) ?_
      have fin : ∀ (jump : Option Code) (W3 : World), KeepsFrom w.heap.size (Wa.putObj w.heap.size (.loop { rec .ready none with state := .busy })) W3 →
          (Instr.endRound w.heap.size jump).run Try.prog W3 = .ok (.bool jump.isNone) (W3.putObj w.heap.size (.loop (rec (if jump.isNone then .ready else .done) jump))) ∧
          W3.heap[w.heap.size]? = some (.loop { rec .ready none with state := .busy }) ∧
          (W3.putObj w.heap.size (.loop (rec (if jump.isNone then .ready else .done) jump))).heap[w.heap.size]? = some (.loop (rec (if jump.isNone then .ready else .done) jump)) := fun jump W3 hk3 => by
        have hl3 := hk3.same _ _ (by omega) hl2 rfl
        have := run_endRound (P := Try.prog) jump hl3
        rw [hrec] at this ⊢
        exact ⟨this, by rw [hrec] at hl3; exact hl3, World.putObj_heap_same (Array.getElem?_eq_some_iff.1 hl3).1⟩
      have hkm : ∀ (o : Obj) (W3 : World), Kb B E (Wa.putObj w.heap.size (.loop { rec .ready none with state := .busy })) W3 → W3.heap[w.heap.size]? = some (.loop { rec .ready none with state := .busy }) → Kb B E W (W3.putObj w.heap.size o) := fun o W3 h hl3 => ((hkma.trans (kb_put _ _ hl rfl)).trans h).trans (kb_put _ _ hl3 rfl)
      rintro e a3 W3 hp
      cases e with
      | normal =>
        obtain ⟨hk3, hkp3, hi3⟩ := hp
        obtain ⟨hr, hl3, hl4⟩ := fin none W3 hk3
        exact ⟨_, _, hr, .inl ⟨rfl, ⟨hI _ _ _ _ hi3 (abN_put _ _ (by omega) hl3 rfl), hl4⟩, hkm _ _ hkp3 hl3⟩⟩
      | ret =>
        obtain ⟨hk3, hkp3, hi3⟩ := hp
        obtain ⟨hr, hl3, hl4⟩ := fin (some .ret) W3 hk3
        exact ⟨_, _, hr, .inr ⟨rfl, ⟨.ret, hIx _ _ _ _ hi3 (abN_put _ _ (by omega) hl3 rfl), hl4⟩, hkm _ _ hkp3 hl3⟩⟩
      | exit id =>
        obtain ⟨hk3, hkp3, hi3⟩ := hp
        obtain ⟨hr, hl3, hl4⟩ := fin (some (.exit id)) W3 hk3
        exact ⟨_, _, hr, .inr ⟨rfl, ⟨.exit id, hIx _ _ _ _ hi3 (abN_put _ _ (by omega) hl3 rfl), hl4⟩, hkm _ _ hkp3 hl3⟩⟩
      | goto t =>
        obtain ⟨hk3, hkp3, hi3⟩ := hp
        obtain ⟨hr, hl3, hl4⟩ := fin (some (.goto t)) W3 hk3
        exact ⟨_, _, hr, .inr ⟨rfl, ⟨.goto t, hIx _ _ _ _ hi3 (abN_put _ _ (by omega) hl3 rfl), hl4⟩, hkm _ _ hkp3 hl3⟩⟩
      | panic ch => exact hp.elim
      | outgrown => exact hp.elim
    · -- behind the iterator
      rintro e W2 ⟨⟨v, rfl⟩, (⟨B, hB, hi, hl⟩ | ⟨B, k, hB, hkl, c, hi, hl⟩)⟩
      · exact ⟨none, _, by have := run_endLoop (P := Try.prog) hl (by rw [hrec]; simp); rw [hrec] at this; exact this, hdone B _ (by omega) (hI _ _ _ _ hi (abN_put _ _ (by omega) hl rfl))⟩
      · exact ⟨some c, _, by have := run_endLoop (P := Try.prog) hl (by rw [hrec]; simp); rw [hrec] at this; exact this, hstop c k _ hkl (hIx _ _ _ _ hi (abN_put _ _ (by omega) hl rfl))⟩
end Go.Proofs.Ytmncamnlmpajbaa
