/-
  s: the parts PRend3 WPrint of the proof.
-/
import Derived.Test.YthiadenmljbdaaaGreatDoorB15s
import Derived.Test.YthiadenmljbdaaaGreatDoorB32s
import Derived.Test.YthiadenmljbdaaaGreatDoorB24s
import Derived.Test.YthiadenmljbdaaaGreatDoorB26s
section
namespace Go.Proofs.YthiadenmljbdaaaGreatDoor
namespace P
theorem res_said {t : T} (h : Wf true t) (hd : t.depth ≤ 60) (hl : (said t).length ≤ 4096) : res ⟨(said t).toArray⟩ = (0, 0, t) := by
  have e : (⟨(said t).toArray⟩ : ByteArray).data.toList = said t := rfl
  have hs : (⟨(said t).toArray⟩ : ByteArray).size = (said t).length := by simp [ByteArray.size]
  have ha : X.ans (said t) = X.lex (said t) 0 := by
    have ht : X.tokens (said t) = X.lex (said t) 0 := by unfold X.tokens; first | rw [if_neg (by omega)] | rw [if_pos (by omega)]
    unfold X.ans
    rw [ht, if_pos (by rw [(lex_said h).1])]
  have hz := (lex_said h).1
  unfold res
  rw [hs, if_neg (by omega), e, ha, if_neg (by rw [hz]; decide), read_said h]
  unfold resOf
  dsimp only
  rw [if_neg (by omega)]
end P
end Go.Proofs.YthiadenmljbdaaaGreatDoor
end
section
namespace Go.Proofs.YthiadenmljbdaaaGreatDoor
open Go.RowKit
open Go.Shelf
attribute [local go_sem] Oper.semAt_some
mutual
theorem in_lt {w : World} {R : Nat → Prop} : ∀ (t : T) (v : Value), T.In w R t v → T.In w (fun g => R g ∧ g < w.heap.size) t v
  | .node k nm ns ng mg ks, v, h => by
    have hr := fun b o => ins_lt (w := w) (R := R) b ks o
    rw [T.In] at h ⊢
    obtain ⟨A1, c1, A2, c2, A3, c3, e, h1, h2, h3, h4⟩ := h
    refine ⟨A1, c1, A2, c2, A3, c3, e, ⟨h1.1, fun hn => ?_⟩, ⟨h2.1, fun hn ad ea => ?_⟩, h3, fun hn => ?_⟩
    · obtain ⟨b, o, ea, hb, hc⟩ := h1.2 hn
      exact ⟨b, o, ea, ⟨hb, World.block_lt_of_cell? w _ (hc 0 hn)⟩, hc⟩
    · obtain ⟨b, o, ea2, hc⟩ := h2.1.cells hn
      rw [ea] at ea2
      injection ea2 with ea2
      subst ea2
      exact ⟨h2.2 hn _ ea, World.block_lt_of_cell? w _ (hc 0 hn)⟩
    · obtain ⟨b, o, ea, hb, hi⟩ := h4 hn
      refine ⟨b, o, ea, ⟨hb, ?_⟩, hr b o hi⟩
      cases ks with
      | nil => exact absurd hn (by simp)
      | cons a r =>
        rw [T.Ins] at hi
        obtain ⟨⟨v0, v1, v2, v3, v4, v5, h6, _⟩, _⟩ := hi
        exact World.block_lt_of_cell? w _ h6.1
theorem ins_lt {w : World} {R : Nat → Prop} (b : Nat) : ∀ (ks : List T) (o : Nat), T.Ins w R b o ks → T.Ins w (fun g => R g ∧ g < w.heap.size) b o ks
  | [], _, _ => by rw [T.Ins]; trivial
  | t :: r, o, h => by
    have h1 := fun v => in_lt (w := w) (R := R) t v
    have h2 := fun o => ins_lt (w := w) (R := R) b r o
    rw [T.Ins] at h ⊢
    obtain ⟨⟨v0, v1, v2, v3, v4, v5, h6, hi⟩, hs⟩ := h
    exact ⟨⟨v0, v1, v2, v3, v4, v5, h6, h1 _ hi⟩, h2 _ hs⟩
end
def T.prE (t : T) : Int := if t.chk = 0 then (if 4096 < (P.said t).length then 40 else 0) else t.chk
def T.prS (t : T) : List UInt8 := if t.chk = 0 then (if 4096 < (P.said t).length then [] else P.said t) else []
theorem said_ne {t : T} (h : P.Wf true t) (hd : t.depth ≤ 60) : P.said t ≠ [] := fun e => by
  have h1 := P.res_said h hd (by rw [e]; exact Nat.zero_le _)
  rw [e] at h1
  have h2 : (P.res ⟨([] : List UInt8).toArray⟩).1 = 42 := by decide
  rw [h1] at h2
  cases h2
set_option maxHeartbeats 3200000 in
set_option maxRecDepth 100000 in
theorem print_t (t : T) (w : World) (R : Nat → Prop) (v : Value) (hN : t.bulk ≤ 1048576) (h : T.In w R t v) :
    Calls Tryz.prog 18 #[v] w fun e w' => e = .returned (.tuple #[.string ⟨t.prS.toArray⟩, .int .i64 t.prE]) ∧ Below w.heap.size w w' := by
  have hIn := h
  obtain ⟨A1, c1, A2, c2, A3, c3, rfl, _⟩ := h.form
  obtain ⟨nm, hnm⟩ : ∃ x, t.nm = x := ⟨_, rfl⟩
  obtain ⟨ng, hng⟩ : ∃ x, t.ng = x := ⟨_, rfl⟩
  obtain ⟨n1, hn1⟩ : ∃ x, t.ns.length = x := ⟨_, rfl⟩
  obtain ⟨n2, hn2⟩ : ∃ x, t.mg.length = x := ⟨_, rfl⟩
  obtain ⟨n3, hn3⟩ : ∃ x, t.ks.length = x := ⟨_, rfl⟩
  obtain ⟨kk, hkk⟩ : ∃ x, t.k = x := ⟨_, rfl⟩
  rw [hkk, hnm, hng, hn1, hn2, hn3] at hIn ⊢
  clear h hnm hng hn1 hn2 hn3 hkk
  unfold tv at hIn ⊢
  have hIn2 := in_lt t _ hIn
  obtain ⟨W, hW, ps, hbW⟩ := made_blk w #[.int .i64 kk, .string nm, .slice A1 n1 c1, .bool ng, .slice A2 n2 c2, .slice A3 n3 c3] 28
  obtain ⟨g, hg⟩ : ∃ g, g = w.heap.size := ⟨_, rfl⟩
  have HWF := Lib.hid (P.wf_in (t := t) hIn)
  have HI1 := Lib.hid (hIn.below hbW)
  have HI2 := Lib.hid (hIn2.below hbW)
  have HBW := Lib.hid hbW
  rw [← hg] at ps
  have hsz := hbW.size
  clear hbW hIn hIn2
  obtain ⟨z, hz⟩ : ∃ z, t.chk = z := ⟨_, rfl⟩
  have HZ := Lib.hid hz
  by_cases h0 : z = 0
  · subst h0
    obtain ⟨hwf, hd⟩ := HWF.out HZ.out
    have HF := Lib.hid (form_all hwf rfl hN)
    have HS0 := Lib.hid (said_ne hwf hd)
    have hln := (P.bl_all hwf).2 rfl
    have hsl : (P.said t).length ≤ 33554440 := by
      have h2 := P.bl_wrap (t := t) (n := 32 * t.bulk - 12) (fun l => by have := hln l; omega) 1 true
      unfold P.said
      omega
    have hfs : formB 1 true t = P.said t := rfl
    obtain ⟨l, hl⟩ : ∃ l, P.said t = l := ⟨_, rfl⟩
    have HPS : Hid (t.prS = if 4096 < l.length then [] else l) := Lib.hid (by unfold T.prS; rw [if_pos HZ.out, hl])
    have HPE : Hid (t.prE = if 4096 < l.length then 40 else 0) := Lib.hid (by unfold T.prE; rw [if_pos HZ.out, hl])
    rw [hl] at hsl hfs HS0
    have HFS := Lib.hid hfs
    clear hwf hd hln hfs hz hl HWF
    by_cases hlt : 4096 < l.length
    all_goals
      first
        | have d1 : decide ((l.length : Int) > 4096) = true := by simp; omega
        | have d1 : decide ((l.length : Int) > 4096) = false := by simp; omega
      first
        | have d2 : decide ((4096 : Int) < (l.length : Int)) = true := by simp; omega
        | have d2 : decide ((4096 : Int) < (l.length : Int)) = false := by simp; omega
      go_enter Tryz.func18, Tryz.ntmps18
      go_upto_region 1 with (fail)
      rw [← hW, ← hg]
      clear hW hg
      obtain ⟨x0, x1, x2, x3, x4, x5⟩ := ps.six
      go_upto_region 4 with (go_at_call 19; refine (check_t t _ R _ hN HI1.out).mono ?_; rw [HZ.out]; rintro e w2 ⟨rfl, hb2⟩; have ps2 := ps.below hb2; have HI3 := Lib.hid (HI2.out.below hb2); have HBW2 := Lib.hid (below_on HBW.out hb2); have hs2 := hb2.size; clear x0 x1 x2 x3 x4 x5 hb2; obtain ⟨x0, x1, x2, x3, x4, x5⟩ := ps2.six)
      obtain ⟨V, hV, hIs, hbV⟩ : ∃ V : World, V = w2.alloc (.cells #[.pointer none, .slice none 0 0] TW) ∧ Lib.IsBuilder TW TB w2.heap.size w2.heap.size [] V ∧ Below w2.heap.size w2 V := ⟨_, rfl, Lib.fresh_isBuilder _ _ _, below_alloc1 _ _⟩
      obtain ⟨b, hb⟩ : ∃ b, b = w2.heap.size := ⟨_, rfl⟩
      have HI4 := Lib.hid (HI3.out.below hbV)
      have hRb : ∀ g, (R g ∧ g < w.heap.size) → g < b := fun g h => by have := h.2; omega
      have HR := Lib.hid hRb
      have HBW3 := Lib.hid (below_on HBW2.out hbV)
      have hwb : w.heap.size ≤ b := by omega
      have hBV : b ≤ V.heap.size := by have := hbV.size; omega
      have ps3 := ps2.below hbV
      go_upto_region 5 with (fail)
      rw [← hV, ← hb]
      rw [← hb] at hIs
      clear x0 x1 x2 x3 x4 x5 hV hb hbV hRb ps ps2 hs2 hsz
      obtain ⟨x0, x1, x2, x3, x4, x5⟩ := ps3.six
      have hl0 : ([] : List Value).length + (formB 1 true t).length ≤ 140737488355328 := by rw [HFS.out, List.length_nil]; omega
      go_upto_region 6 with (go_at_call 43; refine (HF.out b b [] 1 true V _ _ (by decide) HI4.out HR.out hIs hl0 hBV).mono ?_; rw [HFS.out, List.nil_append]; rintro e w3 ⟨rfl, h3, hb3, hk3⟩)
      have hb33 := hb3.mono hwb
      have H3 := Lib.hid h3
      clear h3 hk3 hIs
      go_wp2_with (first
        | (go_at_call 44; refine (len_w b b _ _ (.inr H3.out)).mono ?_; rw [Lib.byteCells_length]; rintro e w4 ⟨rfl, rfl⟩)
        | (go_at_call 45; refine (string_w b b l _ (.inr H3.out) HS0.out).mono ?_; rintro e w5 ⟨rfl, hb5⟩))
      go_ret2
      rw [HPS.out, HPE.out]
      first
        | rw [if_pos hlt, if_pos hlt]
        | rw [if_neg hlt, if_neg hlt]
      first
        | exact ⟨rfl, HBW3.out.trans (hb33.trans (hb5.mono hwb))⟩
        | exact ⟨rfl, HBW3.out.trans hb33⟩
  · have hzz : (z != 0) = true := by simpa using h0
    have HPS : Hid (t.prS = []) := Lib.hid (by unfold T.prS; rw [if_neg (by rw [hz]; exact h0)])
    have HPE : Hid (t.prE = z) := Lib.hid (by unfold T.prE; rw [if_neg (by rw [hz]; exact h0), hz])
    clear hz h0 HWF
    go_enter Tryz.func18, Tryz.ntmps18
    go_upto_region 1 with (fail)
    rw [← hW, ← hg]
    clear hW hg
    obtain ⟨x0, x1, x2, x3, x4, x5⟩ := ps.six
    go_wp2_with (go_at_call 19; refine (check_t t _ R _ hN HI1.out).mono ?_; rw [HZ.out]; rintro e w2 ⟨rfl, hb2⟩)
    go_ret2
    rw [HPS.out, HPE.out]
    exact ⟨rfl, below_on HBW.out hb2⟩
end Go.Proofs.YthiadenmljbdaaaGreatDoor
end
