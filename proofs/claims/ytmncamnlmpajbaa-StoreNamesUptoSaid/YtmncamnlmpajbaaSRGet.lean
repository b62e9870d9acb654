/-
  The document's store: place, Nodes, Get: contracts.
-/
import Derived.Test.YtmncamnlmpajbaaSRSt
import Derived.BigQuiet
namespace Go.Proofs.Ytmncamnlmpajbaa
open Go.RowKit Go.Maps Go.WideMaps Go.Op

theorem less_false {a b : ByteArray} (h : ¬ a.data.toList < b.data.toList) : bytesLess a.toList b.toList = false := by
  rw [less_iff, ByteArray.toList_eq, ByteArray.toList_eq]
  exact decide_eq_false h
theorem str_beq (a b : ByteArray) : (a.toList == b.toList) = decide (a = b) := by
  by_cases h : a = b
  · subst h; simp
  · rw [decide_eq_false h]
    rw [ByteArray.toList_eq, ByteArray.toList_eq, beq_eq_false_iff_ne]
    exact fun e => h (ByteArray.ext (Array.toList_inj.1 e))
theorem below_drewN (w : World) (k : Nat) : Below w.heap.size w (w.drewN k) := ⟨rfl, rfl, rfl, Nat.le_refl _, fun _ _ => rfl⟩
theorem rsize_l (t : T) (w : World) (R : Nat → Prop) (v : Value) (hN : t.bulk ≤ 1048576) (h : T.In w R t v) :
    Calls Try.prog 24 #[v] w fun e w' => e = .returned (.int .i64 (sz t : Nat)) ∧ Below w.heap.size w w' := rSize_t t w R v hN h
section
variable {w : World} {Q B : Nat} {v : Value} {Z : Nat → Prop} {L : Kl}
set_option maxRecDepth 100000 in
set_option maxHeartbeats 1600000 in
theorem place_r (h : RSt w Q v B Z L) (nm : ByteArray) : Calls Try.prog 42 #[.pointer (some ⟨Q, 0, none⟩), .string nm] w fun e w' => e = .returned (.tuple #[.int .i64 (plc nm L : Nat), .bool (lget nm L).isSome]) ∧ Below w.heap.size w w' := by
  have hhere := plc_here (nm := nm) h.2.2.1
  obtain ⟨β, hβ⟩ : ∃ β, (lget nm L).isSome = β := ⟨_, rfl⟩
  rw [hβ] at hhere ⊢
  have HBE := Lib.hid hhere
  clear hhere hβ
  have hn := h.2.2.2.2.1
  have hq := h.2.1.cell 0
  obtain ⟨A, c, rfl, hc, hrow⟩ := h.form
  obtain ⟨n, hL⟩ : ∃ n, L.length = n := ⟨_, rfl⟩
  have hple := plc_le nm L
  have q0 : w.cell? ⟨Q, 0, none⟩ = some (.slice A n c) := by rw [← hL]; exact hq
  rw [hL] at hrow hc hn hple
  have HROW := Lib.hid hrow
  have HL := Lib.hid hL
  obtain ⟨p, hp⟩ : ∃ p, plc nm L = p := ⟨_, rfl⟩
  rw [hp] at hple ⊢
  have HP := Lib.hid hp
  clear hq hrow hL hp h
  go_enter Try.func42, Try.ntmps42
  go_wp2_with fail
  go_loopg [6] (p + 1) (fun gk vi wr => ∃ i, gk + i = p + 1 ∧ i ≤ p ∧ vi = .int .i64 (i : Nat) ∧ wr = w)
  case atStart => exact ⟨0, by omega, Nat.zero_le _, rfl, rfl⟩
  case round =>
    obtain ⟨i, hi', hip, rfl, rfl⟩ := hrel
    by_cases hlt : i < n
    · obtain ⟨g, rfl, hgB, hgl, rs, hrs⟩ := HROW.out (by omega)
      obtain ⟨e1, c0, hkid⟩ := hrs i hlt
      have hi3 : decide (i < n) = true := decide_eq_true hlt
      have hi0 : (0 : Int) ≤ i := by omega
      have hi1 : (i : Int) < n := by omega
      obtain ⟨a, ha⟩ : ∃ a, (L.getD i kd).1 = a := ⟨_, rfl⟩
      rw [ha] at c0
      clear hkid hrs e1
      by_cases hip2 : i < p
      · have hb : bytesLess a.toList nm.toList = true := by rw [← ha]; exact less_true (plc_lt (by rw [HP.out]; exact hip2))
        go_wp2_with fail
        go_roundg (p - i)
        case measure => omega
        case rel => exact ⟨i + 1, by omega, by omega, by go_num, rfl⟩
      · obtain rfl : i = p := by omega
        have hb : bytesLess a.toList nm.toList = false := by
          rw [← ha]
          have := plc_at (nm := nm) (L := L) (by rw [HP.out, HL.out]; exact hlt)
          rw [HP.out] at this
          exact less_false this
        go_upto_region 4 with (fail)
        have hbe : β = decide (a = nm) := by rw [HBE.out, HP.out, HL.out, ha]; simp [hlt]
        go_quiet (fail)
        all_goals
          go_wp2_with fail
          go_ret2
          exact ⟨by rw [hbe, ← str_beq]; rfl, below_drewN _ _⟩
    · obtain rfl : i = n := by omega
      have hi3 : decide (i < i) = false := decide_eq_false hlt
      have hbe : β = false := by rw [HBE.out, HP.out, HL.out, show decide (p < i) = false from decide_eq_false (by omega)]; rfl
      go_upto_region 4 with (fail)
      go_quiet (fail)
      all_goals
        go_wp2_with fail
        go_ret2
        obtain rfl : i = p := by omega
        exact ⟨by rw [hbe]; rfl, below_drewN _ _⟩
set_option maxRecDepth 100000 in
set_option maxHeartbeats 1600000 in
theorem rnodes_s (h : RSt w Q v B Z L) : Calls Try.prog 13 #[.pointer (some ⟨Q, 0, none⟩)] w fun e w' => e = .returned (.int .i64 (total L : Nat)) ∧ Below w.heap.size w w' := by
  have hn := h.2.2.2.2.1
  have htot := h.2.2.2.1
  have hbk := h.2.2.2.2.2.1
  have hq := h.2.1
  obtain ⟨A, c, rfl, hc, hrow⟩ := h.form
  obtain ⟨n, hL⟩ : ∃ n, L.length = n := ⟨_, rfl⟩
  obtain ⟨tt, htt⟩ : ∃ tt, total L = tt := ⟨_, rfl⟩
  rw [htt] at htot ⊢
  rw [hL] at hrow hc hn hq
  have HROW := Lib.hid hrow
  have HL := Lib.hid hL
  have HT := Lib.hid htt
  have HBK := Lib.hid hbk
  clear hrow hL htt h hbk
  have hle : ∀ i, total (L.take i) ≤ tt := fun i => by rw [← HT.out]; exact total_take_le L i
  go_enter Try.func13, Try.ntmps13
  go_wp2_with fail
  go_loopg [3, 4] (n + 1) (fun gk vn vi wr => ∃ i, gk + i = n + 1 ∧ i ≤ n ∧ vn = .int .i64 (total (L.take i) : Nat) ∧ vi = .int .i64 (i : Nat) ∧ Below w.heap.size w wr)
  case atStart => exact ⟨0, by omega, Nat.zero_le _, by simp [total], rfl, Below.refl _ _⟩
  case round =>
    obtain ⟨i, hi', hip, rfl, rfl, hb⟩ := hrel
    have q0 : wr.cell? ⟨Q, 0, none⟩ = some (.slice A n c) := (hq.below hb).cell 0
    by_cases hlt : i < n
    · obtain ⟨g, rfl, hgB, hgl, rs, hrs⟩ := HROW.out (by omega)
      obtain ⟨e1, c0, hkid⟩ := hrs i hlt
      obtain ⟨B1, e1, B2, e2, B3, e3, h6, hkin⟩ := hkid.below hb
      obtain ⟨u, hu⟩ : ∃ u, (L.getD i kd).2 = u := ⟨_, rfl⟩
      have htk := total_take (L := L) (k := i) (by rw [HL.out]; exact hlt)
      rw [hu] at h6 hkin htk
      have hub : u.bulk ≤ 1048576 := by
        rw [← hu]
        exact (HBK.out _ (by have : L.getD i kd = L[i]'(by rw [HL.out]; exact hlt) := by simp [List.getD, HL.out, hlt]
                             rw [this]; exact List.getElem_mem _)).1
      have HI := Lib.hid hkin
      obtain ⟨z0, z1, z2, z3, z4, z5⟩ := h6
      clear hkin hkid hrs c0 hu
      have h1 := hle i
      have h2 := hle (i + 1)
      rw [htk] at h2
      obtain ⟨s0, hs0⟩ : ∃ s0, total (L.take i) = s0 := ⟨_, rfl⟩
      rw [hs0] at htk h1 h2 ⊢
      have hi3 : decide (i < n) = true := decide_eq_true hlt
      have hi0 : (0 : Int) ≤ i := by omega
      have hi1 : (i : Int) < n := by omega
      have hwr : IntKind.i64.wrap ((s0 : Int) + ((sz u : Nat) : Int)) = (((s0 + sz u : Nat)) : Int) := by simp [IntKind.wrap, IntKind.bits, IntKind.signed]; omega
      go_upto_region 4 with (go_at_call 24; refine (rsize_l u _ _ _ hub HI.out).mono ?_; rintro e w2 ⟨rfl, hb2⟩)
      have hb3 := below_on hb hb2
      go_wp2_with fail
      go_roundg (n - i)
      case measure => omega
      case rel => exact ⟨i + 1, by omega, by omega, by rw [htk, Int.natCast_add], by go_num, hb3⟩
    · obtain rfl : i = n := by omega
      have hi3 : decide (i < i) = false := decide_eq_false hlt
      have htk : total (L.take i) = tt := by rw [← HT.out, ← HL.out, List.take_length]
      rw [htk]
      go_wp2_with fail
      go_ret
      exact ⟨rfl, hb⟩
set_option maxRecDepth 100000 in
set_option maxHeartbeats 1600000 in
theorem rget_s (h : RSt w Q v B Z L) (nm : ByteArray) : Calls Try.prog 28 #[.pointer (some ⟨Q, 0, none⟩), .string nm] w fun e w' => ∃ c, e = .returned (.tuple #[kv c, .bool (lget nm L).isSome]) ∧ T.New w' (gt nm L) w.heap.size w'.heap.size c ∧ Below w.heap.size w w' := by
  have hq := h.2.1
  have HPL := Lib.hid (fun (w' : World) (hb : Below w.heap.size w w') => place_r (h.below hb) nm)
  have hbk := h.2.2.2.2.2.1
  have hhere := plc_here (nm := nm) h.2.2.1
  have hget := plc_get (nm := nm) (L := L)
  have hn := h.2.2.2.2.1
  obtain ⟨W1, hW1, pr, hb1⟩ := made_blk w #[.int .i64 0, .string ⟨#[]⟩, .slice none 0 0, .bool false, .slice none 0 0, .slice none 0 0] 35
  obtain ⟨Br, hBr⟩ : ∃ b, b = w.heap.size := ⟨_, rfl⟩
  rw [← hBr] at pr
  have HG := Lib.hid hBr
  have hsz1 : W1.heap.size = Br + 1 := by rw [hW1, hBr]; simp
  obtain ⟨β, hβ⟩ : ∃ β, (lget nm L).isSome = β := ⟨_, rfl⟩
  obtain ⟨p, hp⟩ : ∃ p, plc nm L = p := ⟨_, rfl⟩
  rw [hβ] at hhere HPL ⊢
  obtain ⟨q, hq'⟩ : ∃ q, gt nm L = q := ⟨_, rfl⟩
  rw [hq']
  have HQ := Lib.hid hq'
  rw [hp] at hhere hget HPL
  obtain ⟨A, c, rfl, hc, hrow⟩ := h.form
  obtain ⟨n, hL⟩ : ∃ n, L.length = n := ⟨_, rfl⟩
  rw [hL] at hhere hget hrow hc hq hn
  have HROW := Lib.hid hrow
  have HBK := Lib.hid hbk
  have HGET := Lib.hid hget
  have HHERE := Lib.hid hhere
  have HL := Lib.hid hL
  clear h hrow hbk hget hhere hL hp hq'
  go_enter Try.func28, Try.ntmps28
  go_upto_region 1 with (fail)
  rw [← hW1, ← hBr]
  clear hW1 hBr
  go_upto_region 2 with (go_at_call 42; refine (HPL.out _ hb1).mono ?_; rintro e w2 ⟨rfl, hb2⟩)
  have hb3 := below_on hb1 hb2
  have pr2 := pr.below hb2
  have fr0 := pr2.free 0
  have fr1 := pr2.free 1
  have fr2 := pr2.free 2
  have fr3 := pr2.free 3
  have fr4 := pr2.free 4
  have fr5 := pr2.free 5
  obtain ⟨y0, y1, y2, y3, y4, y5⟩ := pr2.six
  cases β with
  | false =>
    have hgt : q = t0 := by rw [← HQ.out]; unfold gt; rw [Option.isSome_eq_false_iff.1 hβ |> Option.isNone_iff_eq_none.1]
    subst hgt
    go_wp2_with fail
    refine bodyPost_ret (results_tree2 rfl _ _ _ _ _ _ _ _ _ _ rfl ((((((pr2.put 0 _).put 1 _).put 2 _).put 3 _).put 4 _).put 5 _)) rfl ?_
    have hB : w.heap.size ≤ Br := by have := HG.out; omega
    refine ⟨kc0, rfl, (kc0_new _ w.heap.size).wide (Nat.le_refl _) ?_, (((((hb3.setCell hB _).setCell hB _).setCell hB _).setCell hB _).setCell hB _).setCell hB _⟩
    simp only [World.size_setCell]
    exact hb3.size
  | true =>
    have hh := HHERE.out
    simp only [Bool.true_eq, Bool.and_eq_true, decide_eq_true_eq] at hh
    obtain ⟨hlt, hnm⟩ := hh
    have hg := HGET.out hlt hnm
    obtain ⟨g, rfl, hgB, hgl, rs, hrs⟩ := HROW.out (by omega)
    obtain ⟨e1, c0, hkid⟩ := hrs p hlt
    obtain ⟨B1, e1, B2, e2, B3, e3, h6, hkin⟩ := hkid.below hb3
    obtain ⟨u, hu⟩ : ∃ u, (L.getD p kd).2 = u := ⟨_, rfl⟩
    rw [hu] at h6 hkin hg
    have hub : u.bulk ≤ 1048576 := (HBK.out _ (lget_mem hg)).1
    have hgt : u.cp = q := by rw [← HQ.out]; unfold gt; rw [hg]
    have HGT := Lib.hid hgt
    have HI := Lib.hid hkin
    obtain ⟨z0, z1, z2, z3, z4, z5⟩ := h6
    have q0 : w2.cell? ⟨Q, 0, none⟩ = some (.slice (some ⟨g, 0, none⟩) n c) := (hq.below hb3).cell 0
    clear hkin hkid hrs c0 hu hgt hg
    have hi0 : (0 : Int) ≤ p := by omega
    have hi1 : (p : Int) < n := by omega
    go_upto_region 4 with (fail)
    go_wp2_with (go_at_call 43; refine (rcopy_t _ u _ _ _ hub (Nat.le_refl _) HI.out).mono ?_; rintro e w3 ⟨k, rfl, hNew, hb4⟩; have pr3 := pr2.below hb4; have fr0 := pr3.free 0; have fr1 := pr3.free 1; have fr2 := pr3.free 2; have fr3 := pr3.free 3; have fr4 := pr3.free 4; have fr5 := pr3.free 5; obtain ⟨y0, y1, y2, y3, y4, y5⟩ := pr3.six; rw [HGT.out] at hNew; have HNEW := Lib.hid hNew; obtain ⟨F1, f1, F2, f2, F3, f3, rfl⟩ := hNew.form; clear hNew)
    refine bodyPost_ret (results_tree2 rfl _ _ Br _ _ _ _ _ _ _ rfl ((((((pr3.put 0 _).put 1 _).put 2 _).put 3 _).put 4 _).put 5 _)) rfl ?_
    refine ⟨tc q.k q.nm F1 q.ns.length f1 q.ng F2 q.mg.length f2 F3 q.ks.length f3, rfl, ?_, ?_⟩
    · have hlt := pr2.lt
      have hsz := hb3.size
      refine T.New.wide (lo := w2.heap.size) (hi := w3.heap.size) (T.New.keep (w := w3) _ _ _ _ HNEW.out (fun b h1 _ => ?_)) hsz (by simp only [World.size_setCell]; exact Nat.le_refl _)
      have h2 : b ≠ Br := by omega
      exact (((((Below.heap_setCell _ ⟨Br, 5, none⟩ _ _ h2).trans (Below.heap_setCell _ ⟨Br, 4, none⟩ _ _ h2)).trans (Below.heap_setCell _ ⟨Br, 3, none⟩ _ _ h2)).trans (Below.heap_setCell _ ⟨Br, 2, none⟩ _ _ h2)).trans (Below.heap_setCell _ ⟨Br, 1, none⟩ _ _ h2)).trans (Below.heap_setCell _ ⟨Br, 0, none⟩ _ _ h2)
    · have hB : w.heap.size ≤ Br := by rw [HG.out]; exact Nat.le_refl _
      have hbb := below_on hb3 hb4
      exact (((((hbb.setCell hB _).setCell hB _).setCell hB _).setCell hB _).setCell hB _).setCell hB _
end
end Go.Proofs.Ytmncamnlmpajbaa
