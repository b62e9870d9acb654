/-
  The document's store: Drop: contract.
-/
import Derived.Test.YtmncamnlmpajbaaSRPts
namespace Go.Proofs.Ytmncamnlmpajbaa
open Go.RowKit Go.Maps Go.WideMaps Go.Op

theorem dropE_none {nm : ByteArray} {L : Kl} (h : lget nm L = none) : dropE nm L = 221 := by unfold dropE; rw [h]; rfl
theorem dropE_some {nm : ByteArray} {L : Kl} {t : T} (h : lget nm L = some t) : dropE nm L = 0 := by unfold dropE; rw [h]; rfl
section
variable {w : World} {Q B : Nat} {v : Value} {Z : Nat → Prop} {L : Kl}
set_option maxRecDepth 100000 in
set_option maxHeartbeats 1600000 in
theorem rdrop_away (h : RSt w Q v B Z L) (nm : ByteArray) (hg : lget nm L = none) :
    Calls Try.prog 29 #[.pointer (some ⟨Q, 0, none⟩), .string nm] w fun e w' => e = .returned (.int .i64 221) ∧ Below w.heap.size w w' := by
  have HPL := Lib.hid (place_r h nm)
  rw [hg] at HPL
  obtain ⟨p, hp⟩ : ∃ p, plc nm L = p := ⟨_, rfl⟩
  rw [hp] at HPL
  clear hp h hg
  go_enter Try.func29, Try.ntmps29
  go_wp2_with (go_at_call 42; refine HPL.out.mono ?_; rintro e w2 ⟨rfl, hb2⟩)
  go_ret
  exact ⟨rfl, hb2⟩
set_option maxRecDepth 100000 in
set_option maxHeartbeats 1600000 in
theorem rdrop_here (h : RSt w Q v B Z L) (nm : ByteArray) {t : T} (hg : lget nm L = some t) :
    Calls Try.prog 29 #[.pointer (some ⟨Q, 0, none⟩), .string nm] w fun e w' => ∃ v', e = .returned (.int .i64 0) ∧ RSt w' Q v' B Z (ldel nm L) ∧ Fr w w' (fun b => b = Q) ∧ (∀ b, v'.ownBlock = some b → w.heap.size ≤ b) := by
  have HPL := Lib.hid (place_r h nm)
  have hhere := plc_here (nm := nm) h.2.2.1
  rw [hg] at HPL hhere
  obtain ⟨rs, hpts, hown⟩ := h.pts
  have h1 := h.1
  have h2 := h.2.1
  have h3 := h.2.2.1
  have h4 := h.2.2.2.1
  have h5 := h.2.2.2.2.1
  have h6 := h.2.2.2.2.2.1
  have hld := ldel_plc (nm := nm) h3
  have hperm := ldel_here h3 hg
  have htot : total (ldel nm L) ≤ 3000 := by
    have e := total_perm hperm
    rw [total_cons] at e
    omega
  have HRI := Lib.hid (ldel_rising h3 nm)
  have HBK := Lib.hid (fun p (hp : p ∈ ldel nm L) => h6 p (List.mem_filter.1 hp).1)
  obtain ⟨p, hp⟩ : ∃ p, plc nm L = p := ⟨_, rfl⟩
  obtain ⟨n, hL⟩ : ∃ n, L.length = n := ⟨_, rfl⟩
  rw [hp, hL] at hhere hld
  rw [hp] at HPL
  rw [hL] at hown h5
  simp only [Option.isSome_some, Bool.true_eq, Bool.and_eq_true, decide_eq_true_eq] at hhere
  obtain ⟨hlt, hnm⟩ := hhere
  have HLD := Lib.hid (hld hlt hnm)
  have HPT := Lib.hid hpts
  have hrl : rs.length = n := hpts.1.trans hL
  have HTO := Lib.hid htot
  have hln : (ldel nm L).length ≤ 40 := by
    have := hperm.length_eq
    simp only [List.length_cons] at this
    omega
  have HLN := Lib.hid hln
  rcases row_open hrl hown with ⟨_, h0⟩ | ⟨g, cap, cs, rfl, hgB, hgb, hnc, hcm, hcs, hpcs⟩
  · omega
  have hnews0 := row_news0 hgb hpcs p
  have hnews1 := row_news hgb hpcs (p + 1) (by omega)
  have HN0 := Lib.hid hnews0
  have HN1 := Lib.hid hnews1
  have H2 := Lib.hid h2
  have hB : B ≤ w.heap.size := by have := hgb.lt; omega
  have hgl := hgb.lt
  have hQl := h2.lt
  clear h h3 h6 hld hp hpts hnews0 hnews1 htot hown hnm hperm h4 hln hL hcs hpcs
  obtain ⟨i0, hinfo, iz0, iz1, iz2⟩ := info_parts info_kept
  unfold maxLen at hcm
  go_enter Try.func29, Try.ntmps29
  go_upto_region 2 with (go_at_call 42; refine HPL.out.mono ?_; rintro e w2 ⟨rfl, hb2⟩)
  have q0 : w2.cell? ⟨Q, 0, none⟩ = some (.slice (some ⟨g, 0, none⟩) n cap) := (H2.out.below hb2).cell 0
  have hi0 : (0 : Int) ≤ p := by omega
  have hi1 : (p : Int) ≤ n := by omega
  have hi2 : (p : Int) ≤ cap := by omega
  have hi3 : (p : Int) + 1 ≤ n := by omega
  have hi4 : (n : Int) ≤ cap := by omega
  go_upto_region 6 with (at_builtin; refine wpList_append_src _ rfl (.tmp 16) (.tmp 22) 39 rfl w2.heap.size 65 i0 (.agg #[.string ⟨#[]⟩, .int .i64 0, .string ⟨#[]⟩, .slice none 0 0, .bool false, .slice none 0 0, .slice none 0 0]) 7 120 Try.underlying39 hinfo iz0 iz1 iz2 rfl (by decide) _ 0 [] rfl (World.ownsRow_nil _ _ _ _) (some ⟨g, 0, none⟩) p cap (prow (rs.take p)) rfl (by rw [prow_length, List.length_take]; omega) (fun _ => ⟨_, rfl, fun j u hu => by rw [Addr.add_lit, Nat.zero_add]; exact (hb2.cell (by exact hgl)).trans (HN0.out j u hu)⟩) ((HPT.out.take p).one') (by unfold maxLen; omega) (by omega) (Nat.le_refl _) ?_; intro v5 w5 hown5 hg5 _)
  have hb5 : Below w2.heap.size w2 w5 := Below.grown (Below.refl w2.heap.size w2) hg5 (Nat.le_refl _) (fun k hk => by cases hk)
  rw [Nat.zero_add, List.nil_append] at hown5
  obtain ⟨A5, c5, rfl⟩ := own_val7 hown5
  have hlo5 := own_lo7 hown5
  have hb6 := below_on hb2 hb5
  have hq5 := H2.out.below hb6
  have q5 : w5.cell? ⟨Q, 0, none⟩ = some (.slice (some ⟨g, 0, none⟩) n cap) := hq5.cell 0
  have hlt5 : Q < w5.heap.size := hq5.lt
  have fr5 := hq5.free 0
  have HQ5 := Lib.hid hq5
  clear hg5 q0 hq5
  have hgl5 : g < w2.heap.size := Nat.lt_of_lt_of_le hgl hb2.size
  have hm5 : n - (p + 1) ≤ 40 := by omega
  have HE7 := Lib.hid (show p + (n - (p + 1)) = n - 1 by omega)
  by_cases hcp : cap = p + 1
  all_goals
    go_upto_region 7 with (at_builtin; refine wpList_append_src _ rfl (.tmp 25) (.tmp 32) 39 rfl w2.heap.size 65 i0 (.agg #[.string ⟨#[]⟩, .int .i64 0, .string ⟨#[]⟩, .slice none 0 0, .bool false, .slice none 0 0, .slice none 0 0]) 7 120 Try.underlying39 hinfo iz0 iz1 iz2 rfl (by decide) _ p (prow (rs.take p)) rfl hown5 _ (n - (p + 1)) _ (prow (rs.drop (p + 1))) rfl (by rw [prow_length, List.length_drop, hrl]) (fun hm => by first | omega | exact ⟨_, rfl, fun j u hu => by rw [Addr.add_lit]; exact (hb6.cell (by exact hgl)).trans (HN1.out j u hu)⟩) ((HPT.out.drop (p + 1)).one') (by unfold maxLen; omega) (by omega) (hb5.size) ?_; intro v7 w7 hown7 hg7 _; rw [HE7.out, ← prow_append] at hown7; obtain ⟨A7, c7, rfl⟩ := own_val7 hown7; have hq7 := gb_blk HQ5.out hg7 (fun e => by have := (hlo5 Q e.symm).1; omega); have q7 : w7.cell? ⟨Q, 0, none⟩ = some (.slice (some ⟨g, 0, none⟩) n cap) := hq7.cell 0; have fr7 := hq7.free 0)
    go_wp2_with fail
    go_ret
    have hl7 := own_lo7 hown7
    have hs2 := hb2.size
    have hF7 : Fr w w7 (fun b => b = Q) := ((Fr.refl w _).below hb6).grown hg7 (fun k hk => .inr (Nat.le_trans hs2 (hlo5 k hk).1))
    have hFW : Fr w (w7.setCell ⟨Q, 0, none⟩ (.slice A7 (n - 1) c7)) (fun b => b = Q) := hF7.set (.inl rfl) 0 _
    have hF1 : Fr w7 (w7.setCell ⟨Q, 0, none⟩ (.slice A7 (n - 1) c7)) (fun b => b = Q) := (Fr.refl w7 (fun b => b = Q)).set (b := Q) (.inl rfl) 0 _
    have hpt := ((HPT.out.take p).append (HPT.out.drop (p + 1)))
    rw [← HLD.out] at hpt
    have hlen : (ldel nm L).length = n - 1 := by rw [← hpt.1, List.length_append, List.length_take, List.length_drop, hrl]; omega
    refine ⟨.slice A7 (n - 1) c7, rfl, RSt.of h1 (hq7.put 0 _) HRI.out HTO.out HLN.out HBK.out (hpt.keep hFW (fun b hb hR => ⟨⟨hR.1, fun e => ?_, hR.2.2⟩, ?_⟩)) ?_, hFW, fun b hb => Nat.le_trans hs2 (hl7 b hb).1⟩
    · have := (hl7 b e).1; omega
    · have := hR.1; omega
    · rw [hlen]
      exact own_base7 (own_fr hown7 hF1 (fun b hb e => by have := (hl7 b hb).1; omega)) (by omega)
theorem rdrop_s (h : RSt w Q v B Z L) (nm : ByteArray) :
    Calls Try.prog 29 #[.pointer (some ⟨Q, 0, none⟩), .string nm] w fun e w' => ∃ v', e = .returned (.int .i64 (dropE nm L)) ∧ RSt w' Q v' B Z (ldel nm L) ∧ Fr w w' (fun b => b = Q) ∧ (∀ b, v'.ownBlock = some b → v.ownBlock = some b ∨ w.heap.size ≤ b) := by
  cases hg : lget nm L with
  | none =>
    rw [dropE_none hg, ldel_away hg]
    refine (rdrop_away h nm hg).mono ?_
    rintro e w' ⟨rfl, hb⟩
    exact ⟨v, rfl, h.below hb, (Fr.refl w _).below hb, fun b hb => .inl hb⟩
  | some t =>
    rw [dropE_some hg]
    refine (rdrop_here h nm hg).mono ?_
    rintro e w' ⟨v', rfl, h', hF, hb⟩
    exact ⟨v', rfl, h', hF, fun b e => .inr (hb b e)⟩
end
end Go.Proofs.Ytmncamnlmpajbaa
