/-
  riddlelaw22.names: contract.
-/
import Derived.Test.YtmncamnlmpajbaaSRange
namespace Go.Proofs.Ytmncamnlmpajbaa
open Go.RowKit Go.Maps Go.Shelf
attribute [local go_sem] Oper.semAt_some

theorem info_str : (Try.prog.info? 9).map (fun i => (i.zero, i.size, i.bytes)) = some (some (.string ⟨#[]⟩), 1, 16) := by kernel_rfl
theorem AbN.own {B base n : Nat} {u u' : World} {v : Value} {xs : List Value} (h : u.ownsRow base 9 1 v n xs) (hab : AbN B u u') : u'.ownsRow base 9 1 v n xs := by
  obtain ⟨h0, h | ⟨g, cap, cur, e, h1, h2, h3⟩⟩ := h
  · exact ⟨h0, .inl h⟩
  · exact ⟨h0, .inr ⟨g, cap, cur, e, h1, hab.blk h2, h3⟩⟩
theorem names_x (w : World) (p : Option Addr) : Calls Try.prog 15 #[.pointer p] w fun e w' => e = .returned (.func (.func 30) #[] #[.pointer (some ⟨w.heap.size, 0, none⟩)]) ∧ w' = w.alloc (.cells #[.pointer p] 23) := by
  go_enter Try.func15, Try.ntmps15
  go_wp2_with fail
  go_ret
  exact ⟨rfl, rfl⟩
theorem Kb.refl (B : Nat) (E : Nat → Prop) (w : World) : Kb B E w w := ⟨⟨rfl, rfl, rfl, Nat.le_refl _⟩, fun _ _ _ _ _ _ h => h⟩
theorem NRow.lo {w : World} {A : Option Addr} {lo lo' hi : Nat} {ns : List ByteArray} (h : NRow w A lo hi ns) (hl : lo' ≤ lo) : NRow w A lo' hi ns := fun hp => by
  obtain ⟨g, cur, e, h1, h2⟩ := h hp
  exact ⟨g, cur, e, Nat.le_trans hl h1, h2⟩
theorem own_form {w : World} {base n : Nat} {v : Value} {xs : List Value} (h : w.ownsRow base 9 1 v n xs) : ∃ A c, v = .slice A n c := by
  obtain ⟨_, ⟨e, h0⟩ | ⟨g, cap, cur, e, _⟩⟩ := h
  · exact ⟨none, 0, by rw [e, h0]⟩
  · exact ⟨_, cap, e⟩
theorem own_base {w : World} {base n : Nat} {v : Value} {xs : List Value} (h : w.ownsRow base 9 1 v n xs) : ∀ b, v.ownBlock = some b → base ≤ b ∧ b < w.heap.size ∧ ∃ cs t fr, w.heap[b]? = some (.cells cs t fr) := by
  obtain ⟨_, ⟨e, h0⟩ | ⟨g, cap, cur, e, h1, h2, _⟩⟩ := h
  · intro b hb
    rw [e] at hb
    cases hb
  · intro b hb
    rw [e] at hb
    obtain rfl : g = b := by simpa [Value.ownBlock] using hb
    exact ⟨h1, (Array.getElem?_eq_some_iff.1 h2).1, _, _, _, h2⟩
/-- The names so far. -/
def LnI (w : World) (B : Nat) (pre : List ByteArray) (W : World) : Prop := w.heap.size ≤ B ∧ B ≤ W.heap.size ∧ (∃ v, Blk W w.heap.size 29 #[v] ∧ W.ownsRow B 9 1 v pre.length (pre.map Value.string)) ∧ Below w.heap.size w W
set_option maxRecDepth 100000 in
set_option maxHeartbeats 4000000 in
theorem names_in (n : Nat) {w : World} {P M : Nat} {R : Nat → Prop} {L : Kl} (h : StoreAt w P M R L) :
    CallsIn Fence.wide n Try.prog 18 #[.pointer (some ⟨P, 0, none⟩)] w fun e w' => ∃ A c, e = .returned (.slice A L.length c) ∧ NRow w' A w.heap.size w'.heap.size (lnames L) ∧ Below w.heap.size w w' := by
  obtain ⟨i0, hi, iz0, iz1, iz2⟩ := info_parts info_str
  refine callsIn_of_wp_marks Try.func18 rfl trivial ?_ rfl
  simp only [Try.ntmps18, List.size_toArray, List.length_cons, List.length_nil, Nat.reduceAdd, Nat.reduceSub, Array.replicate_succ, Array.replicate_zero, List.push_toArray, List.append_toArray, List.nil_append, List.cons_append]
  have b0 := Blk.new w 29 #[.slice none 0 0]
  have hb1 := below_alloc1 w (.cells #[.slice none 0 0] 29)
  have b1 := Blk.new (w.alloc (.cells #[.slice none 0 0] 29)) 23 #[.pointer (some ⟨P, 0, none⟩)]
  have hb2 := below_alloc1 (w.alloc (.cells #[.slice none 0 0] 29)) (.cells #[.pointer (some ⟨P, 0, none⟩)] 23)
  simp only [World.size_alloc] at b1
  replace b0 := b0.below hb2
  have hbw := below_on hb1 hb2
  clear hb1 hb2
  gi_wp2_with (refine ⟨trivial, fun h => (by cases h), ?_⟩; gi_at_call 15; refine (callsIn_wide.2 (names_x _ _)).mono ?_; rintro e w2 ⟨rfl, rfl⟩)
  obtain ⟨W0, hW0⟩ : ∃ W0, (w.alloc (.cells #[.slice none 0 0] 29)).alloc (.cells #[.pointer (some ⟨P, 0, none⟩)] 23) = W0 := ⟨_, rfl⟩
  rw [hW0] at b0 b1 hbw ⊢
  have hsz : W0.heap.size = w.heap.size + 2 := by rw [← hW0]; simp
  clear hW0
  have hln : L.length ≤ 40 := h.2.2.2.2.1
  have hll : (lnames L).length = L.length := by simp [lnames]
  refine range_n (Bs := w.heap.size + 1) (L := L) rfl (h.below hbw) b1 rfl (fun b => b = w.heap.size) (fun b e => by omega) (LnI w) (fun _ _ _ => False)
    ?hI (fun _ _ _ _ hf _ => hf) ?h0 ?round ?done (fun _ _ _ _ _ _ hf _ => hf.elim)
  case hI =>
    rintro B s u u' ⟨hle, hle2, ⟨v, hp, hown⟩, hb⟩ hab
    exact ⟨hle, Nat.le_trans hle2 hab.size, ⟨v, hab.blk hp, AbN.own hown hab⟩, hab.upto hb (by omega) hb.size⟩
  case h0 =>
    intro u hab
    exact ⟨by have := hab.size; omega, Nat.le_refl _, ⟨_, hab.blk b0, World.ownsRow_nil _ _ _ _⟩, hab.upto hbw (by omega) hbw.size⟩
  case round =>
    rintro mm l B r0 pre x W K hsl hB hl ⟨hle, hle2, ⟨v, hp, hown⟩, hb⟩ hnx hK
    gi_wp2
    refine hK _ _ (KeepsFrom.refl _ _) (Kb.refl _ _ _) (fun r' => ?_)
    have hab := abN_put W (.loop r') hsl hl rfl
    obtain ⟨W9, hW9⟩ : ∃ W9, W.putObj l (.loop r') = W9 := ⟨_, rfl⟩
    rw [hW9] at hab ⊢
    replace hp := hab.blk hp
    replace hown := AbN.own hown hab
    replace hb := hab.upto hb (by omega) hb.size
    have hbz := hb.size
    have hsz9 := hab.size
    have hle3 := Nat.le_trans hle2 hsz9
    have hpl : pre.length ≤ 40 := by have := hnx.1; omega
    obtain ⟨A, c, rfl⟩ := own_form hown
    have hbs := own_base hown
    have hal := below_alloc1 W9 (.cells #[.string x] 9)
    have hx1 := Blk.new W9 9 #[.string x]
    have hownA := hown.kept (gb_of_below hal none) (by cases (Value.slice A pre.length c).ownBlock <;> simp)
    have hpA := hp.below hal
    have hne : some w.heap.size ≠ (Value.slice A pre.length c).ownBlock := fun e => by have := (hbs _ e.symm).1; omega
    have cB := hp.cell 0
    simp only [List.getElem?_toArray, List.getElem?_cons_zero] at cB
    have hlt := hp.lt
    clear hW9 hl hsl K hK hab
    gi_wp2_with (gi_at_builtin; go_loud (refine wpListIn_append_own_at (P := Try.prog) _ rfl (.tmp 8) (.tmp 10) 29 rfl B 9 i0 (.string ⟨#[]⟩) 1 16 Try.underlying29 hi iz0 iz1 iz2 rfl (by decide) _ pre.length _ rfl hownA ⟨W9.heap.size, 0, none⟩ 1 1 [.string x] rfl rfl (fun j u hu => by rw [Addr.add_lit, Nat.zero_add]; rw [hx1.cell j]; simpa using hu) (fun u hu => by simp only [List.mem_cons, List.not_mem_nil, or_false] at hu; rw [hu]; rfl) (Nat.le_trans (Nat.add_le_add_right hpl 1) (by decide)) (by omega) (by simp only [World.size_alloc]; omega) ?_); intro v' w3 hown3 hg3 _ hblk; obtain ⟨A', c', rfl⟩ := own_form hown3; have hp3 := gb_blk hpA hg3 hne; have cB3 := hp3.cell 0; have fB3 := hp3.free 0; simp only [List.getElem?_toArray, List.getElem?_cons_zero] at cB3; clear cB)
    have hfr : Fr W9 (w3.setCell ⟨w.heap.size, 0, none⟩ (.slice A' (pre.length + 1) c')) (fun b => b = w.heap.size ∨ (Value.slice A pre.length c).ownBlock = some b) :=
      Fr.set (Fr.grown ((Fr.refl W9 _).below hal) hg3 (fun q hq => .inl (.inr hq))) (.inl (.inl rfl)) 0 _
    obtain ⟨k1, k2⟩ := kb_fr (B := B) (B0 := W0.heap.size) (E := fun b => b = w.heap.size) hfr (fun b hb _ => by
      rcases hb with rfl | hb
      · exact ⟨.inl rfl, _, _, _, hp⟩
      · exact ⟨.inr (hbs b hb).1, (hbs b hb).2.2⟩)
    have hnb3 : (Value.slice A' (pre.length + 1) c').ownBlock = none ∨ (Value.slice A' (pre.length + 1) c').ownBlock ≠ some w.heap.size := .inr (fun e => by
      rcases hblk with h | h
      · rw [h] at e; exact hne e.symm
      · rw [h] at e
        injection e with e
        simp only [World.size_alloc] at e
        omega)
    refine ⟨k1, k2, hle, Nat.le_trans hle3 hfr.size, ⟨_, hp3.put 0 _, ?_⟩, ?_⟩
    · have := hown3.kept (gb_set (World.grownBy.refl w3 (some w.heap.size)) 0 (.slice A' (pre.length + 1) c')) hnb3
      simpa using this
    · exact ⟨hfr.os.trans hb.os, hfr.tape.trans hb.tape, hfr.output.trans hb.output, Nat.le_trans hb.size hfr.size, fun b hlt => (hfr.block b (by omega) (fun e => by
        rcases e with rfl | e
        · omega
        · have := (hbs b e).1; omega)).trans (hb.block b hlt)⟩
  case done =>
    rintro D B W hD hB ⟨hle, _, ⟨v, hp, hown⟩, hb⟩ hK
    obtain ⟨A, c, rfl⟩ := own_form hown
    have cB := hp.cell 0
    simp only [List.getElem?_toArray, List.getElem?_cons_zero] at cB
    have hab := abN_put (B := W0.heap.size) W (.deferred none) hD hK rfl
    gi_wp2
    refine ⟨by simp, .inl ⟨_, _, rfl, run_takeDeferred hK, ?_⟩⟩
    obtain ⟨A', c', e, hrow, _⟩ := NRow.of_own rfl rfl (AbN.own hown hab)
    exact ⟨_, results_tmp rfl _ _ _, A, c, rfl, by injection e with e1 _ _; rw [e1]; exact hrow.lo hle, hab.upto hb (by omega) hb.size⟩
end Go.Proofs.Ytmncamnlmpajbaa
