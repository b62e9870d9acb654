/-
  A range over lex.Words: the law.
-/
import Derived.Test.YtkioaogpmifgeaaDoorLexV
namespace Go.Proofs.YtkioaogpmifgeaaDoor
open Go.RowKit Go.Shelf
attribute [local go_sem] Oper.semAt_some

set_option maxRecDepth 100000 in
set_option maxHeartbeats 1600000 in
theorem words1_in (n L Bs : Nat) (S : ByteArray) (J Jx : List Tq → World → Prop) (w : World) (hJ : ∀ s u u', J s u → Ab w.heap.size u u' → J s u') (hJx : ∀ s u u', Jx s u → Ab w.heap.size u u' → Jx s u')
    (hY : ∀ m pre x w1, J pre w1 → (∃ base, MagOf base w1 (.slice x.2.2.1.1 x.2.2.1.2.1 x.2.2.1.2.2) x.1 x.2.1.data.toList) → Nx S.data.toList pre x → YieldAt Fence.wide m Tryd.prog L (tq x) w1 fun e w' => (e = .returned (.bool true) ∧ J (pre ++ [x]) w' ∧ Km w1 w') ∨ (e = .returned (.bool false) ∧ Jx (pre ++ [x]) w' ∧ Km w1 w'))
    (hBs : Blk w Bs 9 #[.string S]) (h0 : J [] w) :
    CallsIn Fence.wide n Tryd.prog 25 #[.func (.yield L) #[] #[], .pointer (some ⟨Bs, 0, none⟩)] w fun e w' => (∃ v, e = .returned v) ∧ ((∃ xs, Mt S.data.toList (X.tokens S.data.toList).1 xs ∧ J xs w') ∨ (∃ pre, (∃ k, k ≤ (X.tokens S.data.toList).1.length ∧ Mt S.data.toList ((X.tokens S.data.toList).1.take k) pre) ∧ Jx pre w')) := by
  have cB := hBs.cell 0
  simp only [List.getElem?_toArray, List.getElem?_cons_zero] at cB
  refine callsIn_of_wp Tryd.func25 rfl trivial ?_ rfl
  simp only [Tryd.ntmps25, List.size_toArray, List.length_cons, List.length_nil, Nat.reduceAdd, Nat.reduceSub, Array.replicate_succ, Array.replicate_zero, List.push_toArray, List.append_toArray, List.nil_append, List.cons_append]
  gi_wp2_with (refine ⟨trivial, fun h => (by cases h), ?_⟩; gi_at_call 23; refine (each_in _ L S J Jx w hJ hJx hY h0).mono ?_; rintro e w2 ⟨⟨v, rfl⟩, hpost⟩)
  go_end0
  exact ⟨⟨_, rfl⟩, hpost⟩

/-- What the iterator may do, where a loop's record lies behind B, too. -/
def AbB (B : Nat) (w w' : World) : Prop := Fr w w' (fun b => isMis B w b ∨ (B ≤ b ∧ ∃ o, w.heap[b]? = some o ∧ o.isCells = false))
theorem Ab.abB {B B' : Nat} {w w' : World} (h : Ab B' w w') (hle : B ≤ B') : AbB B w w' := (Fr.refl w _).step h (fun _ hk => .inl (.inl ⟨Nat.le_trans hle hk.1, hk.2⟩))
theorem Ab.row {B k : Nat} {w w' : World} {o : Obj} (h : Ab B w w') (hk : w.heap[k]? = some o) (ho : o.isCells = false) : w'.heap[k]? = some o := by
  refine (h.block k (Array.getElem?_eq_some_iff.1 hk).1 ?_).trans hk
  rintro ⟨_, cs, hcs⟩
  have e := hk.symm.trans hcs
  injection e with e
  subst e
  cases ho
theorem abB_put {B k : Nat} (w : World) (o' : Obj) (hB : B ≤ k) {o : Obj} (hk : w.heap[k]? = some o) (ho : o.isCells = false) : AbB B w (w.putObj k o') :=
  (Fr.refl w _).grown (grownBy_putObj' w k o') (fun j e => by cases e; exact .inl (.inr ⟨hB, o, hk, ho⟩))
theorem Km.trans {w w1 w2 : World} (h : Km w w1) (k : Km w1 w2) : Km w w2 := ⟨⟨k.1.1.trans h.1.1, k.1.2.1.trans h.1.2.1, k.1.2.2.1.trans h.1.2.2.1, Nat.le_trans h.1.2.2.2 k.1.2.2.2⟩, fun b cs hb => k.2 b cs (h.2 b cs hb)⟩
theorem Km.refl (w : World) : Km w w := ⟨⟨rfl, rfl, rfl, Nat.le_refl _⟩, fun _ _ h => h⟩
theorem km_put {k : Nat} (w : World) (o' : Obj) {o : Obj} (hk : w.heap[k]? = some o) (ho : o.isCells = false) : Km w (w.putObj k o') :=
  ⟨⟨rfl, rfl, rfl, by simp⟩, fun b cs hb => (World.putObj_heap_other (fun e => by
    subst e
    have e := hk.symm.trans hb
    injection e with e
    subst e
    cases ho)).trans hb⟩
/-- Behind a round's body. -/
def wPost (B : Nat) (I : List Tq → World → Prop) (Ix : Code → List Tq → World → Prop) (xs : List Tq) (W : World) : Exit → Act → World → Prop
  | .normal, _, W' => KeepsFrom B W W' ∧ Km W W' ∧ I xs W'
  | .ret, _, W' => KeepsFrom B W W' ∧ Km W W' ∧ Ix .ret xs W'
  | .exit id, _, W' => KeepsFrom B W W' ∧ Km W W' ∧ Ix (.exit id) xs W'
  | .goto t, _, W' => KeepsFrom B W W' ∧ Km W W' ∧ Ix (.goto t) xs W'
  | .panic _, _, _ => False
  | .outgrown, _, _ => False

set_option maxHeartbeats 1600000 in
/-- A range over lex.Words. -/
theorem range_words {n Bs : Nat} {S : ByteArray} {g : Operand} {ps : Array Tmp} {assign body : Code} {Q : Exit → Act → World → Prop} {a : Act} {w : World}
    (hg : a.eval g = .func (.func 25) #[] #[.pointer (some ⟨Bs, 0, none⟩)]) (hBs : Blk w Bs 9 #[.string S]) (hps : ps.size = 1)
    (I : List Tq → World → Prop) (Ix : Code → List Tq → World → Prop) (hI : ∀ s u u', I s u → AbB w.heap.size u u' → I s u') (hIx : ∀ c s u u', Ix c s u → AbB w.heap.size u u' → Ix c s u') (h0 : I [] w)
    (Ax : Tq → Act → World → Prop) (hAx : ∀ x a' u l o o', Ax x a' u → u.heap[l]? = some o → o.isCells = false → Ax x a' (u.putObj l o'))
    (hassign : ∀ (m l : Nat) (pre : List Tq) (x : Tq) (W : World) (K : Act → World → Prop), I pre W → (∃ base, MagOf base W (.slice x.2.2.1.1 x.2.2.1.2.1 x.2.2.1.2.2) x.1 x.2.1.data.toList) → (∀ a' W', KeepsFrom w.heap.size W W' → Km W W' → I pre W' → Ax x a' W' → K a' W') →
      assign.wpIn (Fence.wide.inRound l) m Tryd.prog (Exit.then K (fun _ _ _ => False)) { tmps := (ps.zip (tq x)).foldl (fun t (p, v) => t.setIfInBounds p v) a.tmps, defers := [] } W)
    (hbody : ∀ (m l : Nat) (pre : List Tq) (x : Tq) (a' : Act) (W : World), w.heap.size ≤ l → (∃ r, W.heap[l]? = some (.loop r)) → I pre W → Ax x a' W → Nx S.data.toList pre x → body.wpIn (Fence.wide.inRound l) m Tryd.prog (wPost w.heap.size I Ix (pre ++ [x]) W) a' W)
    (hdone : ∀ (D : Nat) (xs : List Tq) (W : World), w.heap.size ≤ D → Mt S.data.toList (X.tokens S.data.toList).1 xs → I xs W → W.heap[D]? = some (.deferred (some [])) → Q .normal { a with defers := { target := .collected D, args := #[] } :: a.defers } W)
    (hstop : ∀ (D : Nat) (c : Code) (pre : List Tq) (W : World), w.heap.size ≤ D → (∃ k, k ≤ (X.tokens S.data.toList).1.length ∧ Mt S.data.toList ((X.tokens S.data.toList).1.take k) pre) → Ix c pre W → W.heap[D]? = some (.deferred (some [])) → c.wpIn Fence.wide n Tryd.prog Q { a with defers := { target := .collected D, args := #[] } :: a.defers } W) :
    (Code.rangeFunc g ps assign body).wpIn Fence.wide n Tryd.prog Q a w := by
  refine wpIn_rangeFunc ?_
  intro fn hfn
  rw [show Fence.wide.round = none from rfl]
  obtain ⟨rec, hrec⟩ : ∃ rec : LoopState → Option Code → Loop, rec = fun st pe => { state := st, pending := pe, fn, tmps := a.tmps, params := ps, assign, body, defers := w.heap.size } := ⟨_, rfl⟩
  obtain ⟨W1, hW1⟩ : ∃ W1, (w.alloc (.deferred (some []))).alloc (.loop (rec .ready none)) = W1 := ⟨_, rfl⟩
  have hL1 : W1.heap[(w.heap.size + 1)]? = some (.loop (rec .ready none)) := by
    rw [← hW1]; have := World.alloc_heap_new (w.alloc (.deferred (some []))) (.loop (rec .ready none)); rwa [World.size_alloc] at this
  have hK1 : W1.heap[w.heap.size]? = some (.deferred (some [])) := by
    rw [← hW1]; exact (Below.heap_alloc _ _ _ (by simp)).trans (World.alloc_heap_new w _)
  have hb1 : Below w.heap.size w W1 := by
    rw [← hW1]; exact (((Below.refl _ w).alloc (Nat.le_refl _) _).alloc (by simp) _)
  have hI1 : I [] W1 := hI _ _ _ h0 ((Fr.refl _ _).below hb1)
  have hS1 : w.heap.size ≤ W1.heap.size := hb1.size
  refine ⟨(w.heap.size + 1), [{ target := .collected w.heap.size, args := #[] }], W1, { target := .fn (.func 25) #[.pointer (some ⟨Bs, 0, none⟩)], args := #[.func (.yield (w.heap.size + 1)) #[] #[]] }, W1, 25,
    #[.func (.yield (w.heap.size + 1)) #[] #[]] ++ #[.pointer (some ⟨Bs, 0, none⟩)], W1, ?_, ?_, ?_, ?_, fun h => (by cases h), ?_⟩
  · rw [← hW1, hrec]; exact run_enterLoop_outer _ _ _ _ _
  · simp only [resolve, hg]
    simp [go_sem]
  · intro f' _; trivial
  · simp [invoke, go_sem]
  · refine CallsIn.mono (words1_in (n - 1) (w.heap.size + 1) Bs S
      (fun pre W => I pre W ∧ W.heap[(w.heap.size + 1)]? = some (.loop (rec .ready none)) ∧ W.heap[w.heap.size]? = some (.deferred (some [])))
      (fun pre W => ∃ c, Ix c pre W ∧ W.heap[(w.heap.size + 1)]? = some (.loop (rec .done (some c))) ∧ W.heap[w.heap.size]? = some (.deferred (some [])))
      W1 ?_ ?_ ?_ (hBs.below hb1) ⟨hI1, hL1, hK1⟩) ?_
    · rintro s u u' ⟨hi, hl, hk⟩ hab
      exact ⟨hI _ _ _ hi (hab.abB hS1), hab.row hl rfl, hab.row hk rfl⟩
    · rintro s u u' ⟨c, hi, hl, hk⟩ hab
      exact ⟨c, hIx _ _ _ _ hi (hab.abB hS1), hab.row hl rfl, hab.row hk rfl⟩
    · -- one round
      rintro m pre x W ⟨hi, hl, hk⟩ hmag hnx
      have hy := run_yield (P := Tryd.prog) (args := tq x) hl (by rw [hrec]; exact hps.symm)
      rw [hrec] at hy
      refine ⟨fn, _, assign, body, hy, roundIn_of_wpIn (F := Fence.wide) hfn (hassign m _ pre x W _ hi hmag ?_)⟩
      clear hy
      intro a' Wa hkfa hkma hia hax
      replace hl := hkfa.same _ _ (by omega) hl rfl
      replace hk := hkfa.same _ _ (Nat.le_refl _) hk rfl
      have hlt : (w.heap.size + 1) < Wa.heap.size := (Array.getElem?_eq_some_iff.1 hl).1
      refine ⟨_, run_beginRound hl (by rw [hrec]), ?_⟩
      have hl2 : (Wa.putObj (w.heap.size + 1) (.loop { rec .ready none with state := .busy })).heap[(w.heap.size + 1)]? = some (.loop { rec .ready none with state := .busy }) := World.putObj_heap_same hlt
      have hk2 : (Wa.putObj (w.heap.size + 1) (.loop { rec .ready none with state := .busy })).heap[w.heap.size]? = some (.deferred (some [])) := (World.putObj_heap_other (by omega)).trans hk
      refine wpIn_mono (hbody m _ pre x a' _ (by omega) ⟨_, hl2⟩ (hI _ _ _ hia (abB_put _ _ (by omega) hl rfl)) (hAx _ _ _ _ _ _ hax hl rfl) hnx) ?_
      have fin : ∀ (jump : Option Code) (W3 : World), KeepsFrom w.heap.size (Wa.putObj (w.heap.size + 1) (.loop { rec .ready none with state := .busy })) W3 →
          (Instr.endRound (w.heap.size + 1) jump).run Tryd.prog W3 = .ok (.bool jump.isNone) (W3.putObj (w.heap.size + 1) (.loop (rec (if jump.isNone then .ready else .done) jump))) ∧
          W3.heap[(w.heap.size + 1)]? = some (.loop { rec .ready none with state := .busy }) ∧
          (W3.putObj (w.heap.size + 1) (.loop (rec (if jump.isNone then .ready else .done) jump))).heap[(w.heap.size + 1)]? = some (.loop (rec (if jump.isNone then .ready else .done) jump)) ∧ (W3.putObj (w.heap.size + 1) (.loop (rec (if jump.isNone then .ready else .done) jump))).heap[w.heap.size]? = some (.deferred (some [])) := fun jump W3 hk3 => by
        have hl3 := hk3.same _ _ (by omega) hl2 rfl
        have := run_endRound (P := Tryd.prog) jump hl3
        rw [hrec] at this ⊢
        exact ⟨this, by rw [hrec] at hl3; exact hl3, World.putObj_heap_same (Array.getElem?_eq_some_iff.1 hl3).1, (World.putObj_heap_other (by omega)).trans (hk3.same _ _ (Nat.le_refl _) hk2 rfl)⟩
      have hkm : ∀ (o : Obj) (W3 : World), Km (Wa.putObj (w.heap.size + 1) (.loop { rec .ready none with state := .busy })) W3 → W3.heap[(w.heap.size + 1)]? = some (.loop { rec .ready none with state := .busy }) → Km W (W3.putObj (w.heap.size + 1) o) := fun o W3 h hl3 => ((hkma.trans (km_put _ _ hl rfl)).trans h).trans (km_put _ _ hl3 rfl)
      rintro e a3 W3 hp
      cases e with
      | normal =>
        obtain ⟨hk3, hkp3, hi3⟩ := hp
        obtain ⟨hr, hl3, hl4, hk4⟩ := fin none W3 hk3
        exact ⟨_, _, hr, .inl ⟨rfl, ⟨hI _ _ _ hi3 (abB_put _ _ (by omega) hl3 rfl), hl4, hk4⟩, hkm _ _ hkp3 hl3⟩⟩
      | ret =>
        obtain ⟨hk3, hkp3, hi3⟩ := hp
        obtain ⟨hr, hl3, hl4, hk4⟩ := fin (some .ret) W3 hk3
        exact ⟨_, _, hr, .inr ⟨rfl, ⟨.ret, hIx _ _ _ _ hi3 (abB_put _ _ (by omega) hl3 rfl), hl4, hk4⟩, hkm _ _ hkp3 hl3⟩⟩
      | exit id =>
        obtain ⟨hk3, hkp3, hi3⟩ := hp
        obtain ⟨hr, hl3, hl4, hk4⟩ := fin (some (.exit id)) W3 hk3
        exact ⟨_, _, hr, .inr ⟨rfl, ⟨.exit id, hIx _ _ _ _ hi3 (abB_put _ _ (by omega) hl3 rfl), hl4, hk4⟩, hkm _ _ hkp3 hl3⟩⟩
      | goto t =>
        obtain ⟨hk3, hkp3, hi3⟩ := hp
        obtain ⟨hr, hl3, hl4, hk4⟩ := fin (some (.goto t)) W3 hk3
        exact ⟨_, _, hr, .inr ⟨rfl, ⟨.goto t, hIx _ _ _ _ hi3 (abB_put _ _ (by omega) hl3 rfl), hl4, hk4⟩, hkm _ _ hkp3 hl3⟩⟩
      | panic ch => exact hp.elim
      | outgrown => exact hp.elim
    · -- behind the iterator
      rintro e W2 ⟨⟨v, rfl⟩, (⟨xs, hS, hi, hl, hk⟩ | ⟨pre, hSp, c, hi, hl, hk⟩)⟩
      · exact ⟨none, _, by have := run_endLoop (P := Tryd.prog) hl (by rw [hrec]; simp); rw [hrec] at this; exact this, hdone _ xs _ (Nat.le_refl _) hS (hI _ _ _ hi (abB_put _ _ (by omega) hl rfl)) ((World.putObj_heap_other (by omega)).trans hk)⟩
      · exact ⟨some c, _, by have := run_endLoop (P := Tryd.prog) hl (by rw [hrec]; simp); rw [hrec] at this; exact this, hstop _ c pre _ (Nat.le_refl _) hSp (hIx _ _ _ _ hi (abB_put _ _ (by omega) hl rfl)) ((World.putObj_heap_other (by omega)).trans hk)⟩

set_option maxHeartbeats 1600000 in
/-- A range over lex.Words, within a round of loop l₀. -/
theorem range_wordsN {n Bs : Nat} {S : ByteArray} {g : Operand} {ps : Array Tmp} {assign body : Code} {Q : Exit → Act → World → Prop} {a : Act} {w : World} {l₀ : Nat} {r₀ : Loop} (hl₀ : w.heap[l₀]? = some (.loop r₀))
    (hg : a.eval g = .func (.func 25) #[] #[.pointer (some ⟨Bs, 0, none⟩)]) (hBs : Blk w Bs 9 #[.string S]) (hps : ps.size = 1)
    (I : List Tq → World → Prop) (Ix : Code → List Tq → World → Prop) (hI : ∀ s u u', I s u → AbB w.heap.size u u' → I s u') (hIx : ∀ c s u u', Ix c s u → AbB w.heap.size u u' → Ix c s u') (h0 : I [] w)
    (Ax : Tq → Act → World → Prop) (hAx : ∀ x a' u l o o', Ax x a' u → u.heap[l]? = some o → o.isCells = false → Ax x a' (u.putObj l o'))
    (hassign : ∀ (m l : Nat) (pre : List Tq) (x : Tq) (W : World) (K : Act → World → Prop), I pre W → (∃ base, MagOf base W (.slice x.2.2.1.1 x.2.2.1.2.1 x.2.2.1.2.2) x.1 x.2.1.data.toList) → (∀ a' W', KeepsFrom w.heap.size W W' → Km W W' → I pre W' → Ax x a' W' → K a' W') →
      assign.wpIn (Fence.wide.inRound l) m Tryd.prog (Exit.then K (fun _ _ _ => False)) { tmps := (ps.zip (tq x)).foldl (fun t (p, v) => t.setIfInBounds p v) a.tmps, defers := [] } W)
    (hbody : ∀ (m l : Nat) (pre : List Tq) (x : Tq) (a' : Act) (W : World), w.heap.size ≤ l → (∃ r, W.heap[l]? = some (.loop r)) → I pre W → Ax x a' W → Nx S.data.toList pre x → body.wpIn (Fence.wide.inRound l) m Tryd.prog (wPost w.heap.size I Ix (pre ++ [x]) W) a' W)
    (hdone : ∀ (xs : List Tq) (W : World), Mt S.data.toList (X.tokens S.data.toList).1 xs → I xs W → Q .normal a W)
    (hstop : ∀ (c : Code) (pre : List Tq) (W : World), (∃ k, k ≤ (X.tokens S.data.toList).1.length ∧ Mt S.data.toList ((X.tokens S.data.toList).1.take k) pre) → Ix c pre W → c.wpIn (Fence.wide.inRound l₀) n Tryd.prog Q a W) :
    (Code.rangeFunc g ps assign body).wpIn (Fence.wide.inRound l₀) n Tryd.prog Q a w := by
  refine wpIn_rangeFunc ?_
  intro fn hfn
  rw [show (Fence.wide.inRound l₀).round = some l₀ from rfl]
  obtain ⟨rec, hrec⟩ : ∃ rec : LoopState → Option Code → Loop, rec = fun st pe => { state := st, pending := pe, fn, tmps := a.tmps, params := ps, assign, body, defers := r₀.defers } := ⟨_, rfl⟩
  obtain ⟨W1, hW1⟩ : ∃ W1, w.alloc (.loop (rec .ready none)) = W1 := ⟨_, rfl⟩
  have hL1 : W1.heap[w.heap.size]? = some (.loop (rec .ready none)) := by
    rw [← hW1]; exact World.alloc_heap_new w _
  have hb1 : Below w.heap.size w W1 := by
    rw [← hW1]; exact ((Below.refl _ w).alloc (Nat.le_refl _) _)
  have hI1 : I [] W1 := hI _ _ _ h0 ((Fr.refl _ _).below hb1)
  have hS1 : w.heap.size ≤ W1.heap.size := hb1.size
  refine ⟨w.heap.size, [], W1, { target := .fn (.func 25) #[.pointer (some ⟨Bs, 0, none⟩)], args := #[.func (.yield w.heap.size) #[] #[]] }, W1, 25,
    #[.func (.yield w.heap.size) #[] #[]] ++ #[.pointer (some ⟨Bs, 0, none⟩)], W1, ?_, ?_, ?_, ?_, fun h => (by cases h), ?_⟩
  · rw [← hW1, hrec]; exact run_enterLoop_inner hl₀ _ _ _ _ _
  · simp only [resolve, hg]
    simp [go_sem]
  · intro f' _; trivial
  · simp [invoke, go_sem]
  · refine CallsIn.mono (words1_in (n - 1) w.heap.size Bs S
      (fun pre W => I pre W ∧ W.heap[w.heap.size]? = some (.loop (rec .ready none)))
      (fun pre W => ∃ c, Ix c pre W ∧ W.heap[w.heap.size]? = some (.loop (rec .done (some c))))
      W1 ?_ ?_ ?_ (hBs.below hb1) ⟨hI1, hL1⟩) ?_
    · rintro s u u' ⟨hi, hl⟩ hab
      exact ⟨hI _ _ _ hi (hab.abB hS1), hab.row hl rfl⟩
    · rintro s u u' ⟨c, hi, hl⟩ hab
      exact ⟨c, hIx _ _ _ _ hi (hab.abB hS1), hab.row hl rfl⟩
    · -- one round
      rintro m pre x W ⟨hi, hl⟩ hmag hnx
      have hy := run_yield (P := Tryd.prog) (args := tq x) hl (by rw [hrec]; exact hps.symm)
      rw [hrec] at hy
      refine ⟨fn, _, assign, body, hy, roundIn_of_wpIn (F := Fence.wide) hfn (hassign m _ pre x W _ hi hmag ?_)⟩
      clear hy
      intro a' Wa hkfa hkma hia hax
      replace hl := hkfa.same _ _ (by omega) hl rfl
      
      have hlt : w.heap.size < Wa.heap.size := (Array.getElem?_eq_some_iff.1 hl).1
      refine ⟨_, run_beginRound hl (by rw [hrec]), ?_⟩
      have hl2 : (Wa.putObj w.heap.size (.loop { rec .ready none with state := .busy })).heap[w.heap.size]? = some (.loop { rec .ready none with state := .busy }) := World.putObj_heap_same hlt
      
      refine wpIn_mono (hbody m _ pre x a' _ (by omega) ⟨_, hl2⟩ (hI _ _ _ hia (abB_put _ _ (by omega) hl rfl)) (hAx _ _ _ _ _ _ hax hl rfl) hnx) ?_
      have fin : ∀ (jump : Option Code) (W3 : World), KeepsFrom w.heap.size (Wa.putObj w.heap.size (.loop { rec .ready none with state := .busy })) W3 →
          (Instr.endRound w.heap.size jump).run Tryd.prog W3 = .ok (.bool jump.isNone) (W3.putObj w.heap.size (.loop (rec (if jump.isNone then .ready else .done) jump))) ∧
          W3.heap[w.heap.size]? = some (.loop { rec .ready none with state := .busy }) ∧
          (W3.putObj w.heap.size (.loop (rec (if jump.isNone then .ready else .done) jump))).heap[w.heap.size]? = some (.loop (rec (if jump.isNone then .ready else .done) jump)) := fun jump W3 hk3 => by
        have hl3 := hk3.same _ _ (by omega) hl2 rfl
        have := run_endRound (P := Tryd.prog) jump hl3
        rw [hrec] at this ⊢
        exact ⟨this, by rw [hrec] at hl3; exact hl3, World.putObj_heap_same (Array.getElem?_eq_some_iff.1 hl3).1⟩
      have hkm : ∀ (o : Obj) (W3 : World), Km (Wa.putObj w.heap.size (.loop { rec .ready none with state := .busy })) W3 → W3.heap[w.heap.size]? = some (.loop { rec .ready none with state := .busy }) → Km W (W3.putObj w.heap.size o) := fun o W3 h hl3 => ((hkma.trans (km_put _ _ hl rfl)).trans h).trans (km_put _ _ hl3 rfl)
      rintro e a3 W3 hp
      cases e with
      | normal =>
        obtain ⟨hk3, hkp3, hi3⟩ := hp
        obtain ⟨hr, hl3, hl4⟩ := fin none W3 hk3
        exact ⟨_, _, hr, .inl ⟨rfl, ⟨hI _ _ _ hi3 (abB_put _ _ (by omega) hl3 rfl), hl4⟩, hkm _ _ hkp3 hl3⟩⟩
      | ret =>
        obtain ⟨hk3, hkp3, hi3⟩ := hp
        obtain ⟨hr, hl3, hl4⟩ := fin (some .ret) W3 hk3
        exact ⟨_, _, hr, .inr ⟨rfl, ⟨.ret, hIx _ _ _ _ hi3 (abB_put _ _ (by omega) hl3 rfl), hl4⟩, hkm _ _ hkp3 hl3⟩⟩
      | exit id =>
        obtain ⟨hk3, hkp3, hi3⟩ := hp
        obtain ⟨hr, hl3, hl4⟩ := fin (some (.exit id)) W3 hk3
        exact ⟨_, _, hr, .inr ⟨rfl, ⟨.exit id, hIx _ _ _ _ hi3 (abB_put _ _ (by omega) hl3 rfl), hl4⟩, hkm _ _ hkp3 hl3⟩⟩
      | goto t =>
        obtain ⟨hk3, hkp3, hi3⟩ := hp
        obtain ⟨hr, hl3, hl4⟩ := fin (some (.goto t)) W3 hk3
        exact ⟨_, _, hr, .inr ⟨rfl, ⟨.goto t, hIx _ _ _ _ hi3 (abB_put _ _ (by omega) hl3 rfl), hl4⟩, hkm _ _ hkp3 hl3⟩⟩
      | panic ch => exact hp.elim
      | outgrown => exact hp.elim
    · -- behind the iterator
      rintro e W2 ⟨⟨v, rfl⟩, (⟨xs, hS, hi, hl⟩ | ⟨pre, hSp, c, hi, hl⟩)⟩
      · exact ⟨none, _, by have := run_endLoop (P := Tryd.prog) hl (by rw [hrec]; simp); rw [hrec] at this; exact this, hdone xs _ hS (hI _ _ _ hi (abB_put _ _ (by omega) hl rfl))⟩
      · exact ⟨some c, _, by have := run_endLoop (P := Tryd.prog) hl (by rw [hrec]; simp); rw [hrec] at this; exact this, hstop c pre _ hSp (hIx _ _ _ _ hi (abB_put _ _ (by omega) hl rfl))⟩
end Go.Proofs.YtkioaogpmifgeaaDoor
