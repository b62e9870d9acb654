/-
  l: the parts YRCopy.
-/
import Derived.Test.YthiadenmljbdaaaGreatDoorB23l
import Derived.Test.YthiadenmljbdaaaGreatDoorB12l
namespace Go.Proofs.YthiadenmljbdaaaGreatDoor
section
open Go.RowKit
theorem SlR.upne {w w' : World} {lo hi lo' hi' x : Nat} {A : Option Addr} {c : Nat} {l : List Nat} (h : SlR w (fun b => Nb w lo hi b ∧ b ≠ x) A c l) (h1 : lo' ≤ lo) (h2 : hi ≤ hi') (he : ∀ b, lo ≤ b → b < hi → b ≠ x → w'.heap[b]? = w.heap[b]?) : SlR w' (fun b => Nb w' lo' hi' b ∧ b ≠ x) A c l :=
 h.keep (fun p _ hp hc => (World.cell?_of_block (a := p) (he _ hp.1.1 hp.1.2.1 hp.2)).trans hc) (fun b hb => ⟨hb.1.up h1 h2 (he b hb.1.1 hb.1.2.1 hb.2), hb.2⟩)
theorem SlR.upn {w w' : World} {lo hi lo' hi' x : Nat} {A : Option Addr} {c : Nat} {l : List Nat} (h : SlR w (fun b => Nb w lo hi b ∧ b ≠ x) A c l) (h1 : lo' ≤ lo) (h2 : hi ≤ hi') (he : ∀ b, lo ≤ b → b < hi → b ≠ x → w'.heap[b]? = w.heap[b]?) : SlR w' (Nb w' lo' hi') A c l :=
 h.keep (fun p _ hp hc => (World.cell?_of_block (a := p) (he _ hp.1.1 hp.1.2.1 hp.2)).trans hc) (fun b hb => hb.1.up h1 h2 (he b hb.1.1 hb.1.2.1 hb.2))
theorem own_form {w : World} {base n : Nat} {v : Value} {xs : List Value} (h : w.ownsRow base 9 1 v n xs) : ∃ A c, v = .slice A n c := by
 obtain ⟨_, ⟨e, h0⟩ | ⟨g, cap, cur, e, _⟩⟩ := h
 · exact ⟨none, 0, by rw [e, h0]⟩
 · exact ⟨_, cap, e⟩
theorem own_strl {w : World} {base n : Nat} {A : Option Addr} {c : Nat} {ns : List ByteArray} (hn : n = ns.length) (h : w.ownsRow base 9 1 (.slice A n c) n ([] ++ ns.map Value.string)) : StrL w (Nb w base w.heap.size) A c ns := by
 subst hn
 obtain ⟨_, ⟨e, h0⟩ | ⟨g, cap, cur, e, hb, hg, hc, _, _, ht⟩⟩ := h
 · injection e with _ _ e3
   exact ⟨by omega, fun hp => by omega⟩
 ·
  injection e with e1 _ e3
  subst e1; subst e3
  refine ⟨hc, fun _ => ⟨g, 0, rfl, ⟨hb, (Array.getElem?_eq_some_iff.1 hg).1, cur, _, hg⟩, fun i hi => ?_⟩⟩
  have e2 : (cur.toList.take (ns.length * 1))[i]? = some (.string (ns.getD i ⟨#[]⟩)) := by rw [ht]; simp [List.getD, hi]
  rw [List.getElem?_take_of_lt (by omega)] at e2
  rw [Nat.zero_add, cell_of_row _ _ _ _ _ _ hg]
  simpa using e2
set_option maxRecDepth 100000 in
set_option maxHeartbeats 6400000 in
theorem rcopy_t : ∀ (N : Nat) (t : T) (w : World) (R : Nat → Prop) (v : Value), t.bulk ≤ N → N ≤ 1048576 → T.In w R t v →
    Calls Tryz.prog 26 #[v] w fun e w' => ∃ c, e = .returned (kv c) ∧ T.New w' t.cp w.heap.size w'.heap.size c ∧ Below w.heap.size w w'
  | 0, t, _, _, _, hN, _, _ => by have := T.bulk_pos t; omega
  | N + 1, t, w, R, v, hN, hN2, h => by
   have ih := rcopy_t N
   obtain ⟨A1, c1, A2, c2, A3, c3, rfl, hnames, hmag, hc3, hkids⟩ := h.open
   obtain ⟨n, hn⟩ : ∃ n, t.ks.length = n := ⟨_, rfl⟩
   obtain ⟨hl1, hl2, hl3, hl4, hlen⟩ := T.len_le hN
   rw [hn] at hkids hc3 hlen ⊢
   have HN := Lib.hid hn
   have HK := Lib.hid hkids
   have HB := Lib.hid hN
   have HNM := Lib.hid hnames
   have HMG := Lib.hid hmag
   clear hn hkids hN h hnames hmag
   go_enter Tryz.func26, Tryz.ntmps26
   go_upto_region 1 with (fail)
   obtain ⟨W1, hW1, pt, hb1⟩ := made_blk w #[.int .i64 t.k, .string t.nm, .slice A1 t.ns.length c1, .bool t.ng, .slice A2 t.mg.length c2, .slice A3 n c3] 28
   have hsz1 : W1.heap.size = w.heap.size + 1 := by rw [hW1]; simp
   obtain ⟨Bt, hBt⟩ : ∃ b, b = w.heap.size := ⟨_, rfl⟩
   rw [← hW1, ← hBt]
   rw [← hBt] at pt hsz1
   obtain ⟨W2, hW2, pr, hb2⟩ := made_blk W1 #[.int .i64 0, .string ⟨#[]⟩, .slice none 0 0, .bool false, .slice none 0 0, .slice none 0 0] 28
   rw [← hW2]
   rw [hsz1] at pr
   have pt := pt.below hb2
   have hb1 := below_on hb1 hb2
   have hsz2 : W2.heap.size = Bt + 2 := by rw [hW2]; simp [hsz1]
   have HBt := Lib.hid hBt
   clear hW1 hW2 hb2 hBt hsz1
   obtain ⟨x0, x1, x2, x3, x4, x5⟩ := pt.six
   have HS2 := Lib.hid hsz2
   clear hsz2
   obtain ⟨i0, hinfo, iz0, iz1, iz2⟩ := tree_info
   obtain ⟨i1, hinfo1, jz0, jz1, jz2⟩ := info_parts info_name
   go_cut [3] from 5 (fun v3 W4 => ∃ Bo E2 d2, v3 = .pointer (some ⟨Bo, 0, none⟩) ∧ Bt + 2 ≤ Bo ∧ Below w.heap.size w W4 ∧ Blk W4 Bt 28 #[.int .i64 t.k, .string t.nm, .slice A1 t.ns.length c1, .bool t.ng, .slice A2 t.mg.length c2, .slice A3 n c3] ∧ Blk W4 (Bt + 1) 28 #[.int .i64 0, .string ⟨#[]⟩, .slice none 0 0, .bool false, .slice none 0 0, .slice none 0 0] ∧ Blk W4 Bo 28 #[.int .i64 t.k, .string t.nm, .slice none 0 0, .bool (nrmS t.ng t.mg), .slice E2 (nrm t.mg).length d2, .slice none 0 0] ∧ SlR W4 (fun b => Nb W4 (Bt + 2) W4.heap.size b ∧ b ≠ Bo) E2 d2 (nrm t.mg))
   case first =>
    have n0 := World.new_ne W2 _ x0
    have n1 := World.new_ne W2 _ x1
    have n3 := World.new_ne W2 _ x3
    have n4 := World.new_ne W2 _ x4
    go_region_held (fun w' => w'.cell? ⟨Bt, 0, none⟩ = some (.int .i64 t.k) ∧ w'.cell? ⟨Bt, 1, none⟩ = some (.string t.nm) ∧ w'.cell? ⟨Bt, 3, none⟩ = some (.bool t.ng) ∧ w'.cell? ⟨Bt, 4, none⟩ = some (.slice A2 t.mg.length c2)) (go_keep) (first
     | (go_at_call 56; refine (norm_rl _ R _ _ _ _ ((HMG.out.below hb1).below (Below.refl _ _).drew) (by omega)).mono ?_; rintro e w5 ⟨E2, d2, rfl, hs1, hb3⟩; have hb3' := below_on ((Below.refl W2.heap.size W2).drew) hb3; obtain ⟨z0, z1, z2, z3, z4, z5⟩ := (pt.below hb3').six)
     | (go_at_call 56; refine (norm_rl _ R _ _ _ _ ((HMG.out.below hb1).below (below_alloc1 _ _).drew) (by omega)).mono ?_; rintro e w5 ⟨E2, d2, rfl, hs1, hb3⟩; have hb3' := below_on (below_alloc1 W2 _).drew hb3; obtain ⟨z0, z1, z2, z3, z4, z5⟩ := (pt.below hb3').six; have pz : Blk w5 W2.heap.size 28 #[.int .i64 0, .string ⟨#[]⟩, .slice none 0 0, .bool false, .slice none 0 0, .slice none 0 0] := (show Blk (W2.alloc (.cells #[.int .i64 0, .string ⟨#[]⟩, .slice none 0 0, .bool false, .slice none 0 0, .slice none 0 0] 28)).drew _ _ _ from Blk.new W2 _ _).below hb3; have fr0 := pz.free 0; have fr1 := pz.free 1; have fr2 := pz.free 2; have fr3 := pz.free 3; have fr4 := pz.free 4; have fr5 := pz.free 5; obtain ⟨a0, a1, a2, a3, a4, a5⟩ := pz.six))
    · go_wp2_with fail
      go_meet
      have hbl := below_alloc1 w5 (.cells #[.int .i64 t.k, .string t.nm, .slice none 0 0, .bool (nrmS t.ng t.mg), .slice E2 (nrm t.mg).length d2, .slice none 0 0] 28)
      have hbb := below_on hb3' hbl
      have hs0 : W2.drew.heap.size = W2.heap.size := rfl
      exact ⟨w5.heap.size, E2, d2, rfl, by have := HS2.out; have := hb3'.size; omega, below_on hb1 hbb, pt.below hbb, pr.below hbb, Blk.new _ _ _, hs1.keep (fun p _ hp hc => (World.cell?_of_block (a := p) (hbl.block _ hp.2.1)).trans hc) (fun b hb => ⟨hb.up (by have := HS2.out; omega) hbl.size (hbl.block b hb.2.1), Nat.ne_of_lt hb.2.1⟩)⟩
    ·
     go_wp2_with fail
     go_meet
     have hlo : (W2.alloc (.cells #[.int .i64 0, .string ⟨#[]⟩, .slice none 0 0, .bool false, .slice none 0 0, .slice none 0 0] 28)).drew.heap.size = W2.heap.size + 1 := by simp [World.drew]
     have h2 := HS2.out
     obtain ⟨W4, hW4⟩ : ∃ W4, W4 = (((((w5.setCell ⟨W2.heap.size, 0, none⟩ (.int .i64 t.k)).setCell ⟨W2.heap.size, 1, none⟩ (.string t.nm)).setCell ⟨W2.heap.size, 2, none⟩ (.slice none 0 0)).setCell ⟨W2.heap.size, 3, none⟩ (.bool (nrmS t.ng t.mg))).setCell ⟨W2.heap.size, 4, none⟩ (.slice E2 (nrm t.mg).length d2)).setCell ⟨W2.heap.size, 5, none⟩ (.slice none 0 0) := ⟨_, rfl⟩
     rw [← hW4]
     have hB : w.heap.size ≤ W2.heap.size := by have := HBt.out; omega
     have hfar : ∀ b, b ≠ W2.heap.size → W4.heap[b]? = w5.heap[b]? := fun b h2 => by
      rw [hW4]
      exact (((((Below.heap_setCell _ ⟨W2.heap.size, 5, none⟩ _ _ h2).trans (Below.heap_setCell _ ⟨W2.heap.size, 4, none⟩ _ _ h2)).trans (Below.heap_setCell _ ⟨W2.heap.size, 3, none⟩ _ _ h2)).trans (Below.heap_setCell _ ⟨W2.heap.size, 2, none⟩ _ _ h2)).trans (Below.heap_setCell _ ⟨W2.heap.size, 1, none⟩ _ _ h2)).trans (Below.heap_setCell _ ⟨W2.heap.size, 0, none⟩ _ _ h2)
     have hsz : W4.heap.size = w5.heap.size := by rw [hW4]; simp
     refine ⟨W2.heap.size, E2, d2, rfl, by omega, ?_, (hfar Bt (by omega)).trans (pt.below hb3'), (hfar (Bt + 1) (by omega)).trans (pr.below hb3'), ?_, hs1.keep (fun p _ hp hc => (World.cell?_of_block (a := p) (hfar _ (by have := hp.1; omega))).trans hc) (fun b hb => ⟨hb.up (by omega) (by omega) (hfar b (by have := hb.1; omega)), by have := hb.1; omega⟩)⟩
     · rw [hW4]
       exact ((((((below_on hb1 hb3').setCell hB _).setCell hB _).setCell hB _).setCell hB _).setCell hB _).setCell hB _
     · rw [hW4]
       exact (((((pz.put 0 _).put 1 _).put 2 _).put 3 _).put 4 _).put 5 _
   obtain ⟨Bo, E2, d2, rfl, hBo2, hb5, pt4, pr4, po4, hm4⟩ := hcut
   rename World => W4
   have hBo3 := po4.lt
   clear hb1 pt pr x0 x1 x2 x3 x4 x5
   -- here: W4, Bo, pt4, pr4, po4, hm4, hb5, hBo, hBo2
   have HM4 := Lib.hid hm4
   have HNM4 := Lib.hid (HNM.out.below hb5)
   obtain ⟨x0, x1, x2, x3, x4, x5⟩ := pt4.six
   obtain ⟨y0, y1, y2, y3, y4, y5⟩ := po4.six
   obtain ⟨hcapn, hcn⟩ := HNM4.out
   have hnews : 0 < t.ns.length → ∃ ad, A1 = some ad ∧ ∀ j u, (t.ns.map Value.string)[j]? = some u → W4.cell? (ad.add j) = some u := fun hp => by
    obtain ⟨b, o, e, _, hc⟩ := hcn hp
    refine ⟨_, e, fun j u hu => ?_⟩
    have hj : j < t.ns.length := by have := (List.getElem?_eq_some_iff.1 hu).1; simpa using this
    rw [Addr.add_lit, hc j hj, ← hu]
    simp [List.getD, hj]
   have HNW := Lib.hid hnews
   clear hm4 hcn hnews
   go_upto_region 3 with (at_builtin; refine wpList_append_src _ rfl (.tmp 14) (.tmp 16) 22 rfl W4.heap.size 9 i1 (.string ⟨#[]⟩) 1 16 Tryz.underlying22 hinfo1 jz0 jz1 jz2 rfl (by decide) _ 0 [] rfl (World.ownsRow_nil _ _ _ _) A1 t.ns.length c1 (t.ns.map Value.string) rfl (by simp) HNW.out (fun u hu => by obtain ⟨s, _, rfl⟩ := List.mem_map.1 hu; rfl) (by unfold maxLen; omega) (by omega) (Nat.le_refl _) ?_; intro v5 w5 hown5 hg5 _; obtain ⟨E1, d1, rfl⟩ := own_form hown5; have hb6 := Below.grown (Below.refl W4.heap.size W4) hg5 (Nat.le_refl _) (fun k hk => by cases hk); have po5 := po4.below hb6; have fr5 := po5.free 2; have yy := po5.six.2.2.1)
   have hst5 := own_strl (by simp) hown5
   try simp only [Nat.zero_add]
   obtain ⟨W6, hW6⟩ : ∃ W, W = w5.setCell ⟨Bo, 2, none⟩ (.slice E1 t.ns.length d1) := ⟨_, rfl⟩
   have po6 : Blk W6 Bo 28 #[.int .i64 t.k, .string t.nm, .slice E1 t.ns.length d1, .bool (nrmS t.ng t.mg), .slice E2 (nrm t.mg).length d2, .slice none 0 0] := by rw [hW6]; exact po5.put 2 _
   have pt6 : Blk W6 Bt 28 #[.int .i64 t.k, .string t.nm, .slice A1 t.ns.length c1, .bool t.ng, .slice A2 t.mg.length c2, .slice A3 n c3] := by rw [hW6]; exact (pt4.below hb6).far (by omega) 2 _
   have pr6 : Blk W6 (Bt + 1) 28 #[.int .i64 0, .string ⟨#[]⟩, .slice none 0 0, .bool false, .slice none 0 0, .slice none 0 0] := by rw [hW6]; exact (pr4.below hb6).far (by omega) 2 _
   have hfar6 : ∀ b, b ≠ Bo → W6.heap[b]? = w5.heap[b]? := fun b hb => by rw [hW6]; exact Below.heap_setCell _ _ _ _ hb
   have hsz6 : W6.heap.size = w5.heap.size := by rw [hW6]; simp
   have hle6 := hb6.size
   have hs6 : StrL W6 (Nb W6 (Bo + 1) W6.heap.size) E1 d1 t.ns := hst5.up (by omega) (by omega) (fun b h1 _ => hfar6 b (by omega))
   have hm6 : SlR W6 (fun b => Nb W6 (Bt + 2) W6.heap.size b ∧ b ≠ Bo) E2 d2 (nrm t.mg) := HM4.out.upne (Nat.le_refl _) (by omega) (fun b h1 h2 h3 => (hfar6 b h3).trans (hb6.block b h2))
   have hbA : Below w.heap.size w W6 := by rw [hW6]; exact (below_on hb5 hb6).setCell (by show _ ≤ Bo; have := HBt.out; omega) _
   rw [← hW6]
   have HS6 := Lib.hid hs6
   have HM6 := Lib.hid hm6
   have hBo6 : Bo < W6.heap.size := by omega
   clear hW6 hst5 hs6 hm6 hfar6 hsz6 hle6 po5 fr5 yy hown5 hg5 hb6 HM4 HNM4 HNW x0 x1 x2 x3 x4 x5 y0 y1 y2 y3 y4 y5 po4 pt4 pr4 hBo3 hb5
   obtain ⟨x0, x1, x2, x3, x4, x5⟩ := pt6.six
   go_wp2_with fail
   go_loopg [4] (n + 1) (fun gk vi wr => ∃ (i : Nat) (rs : List Kc) (A5 : Option Addr) (c5 : Nat), gk + i = n + 1 ∧ i ≤ n ∧ vi = .int .i64 (i : Nat) ∧ Blk wr Bo 28 #[.int .i64 t.k, .string t.nm, .slice E1 t.ns.length d1, .bool (nrmS t.ng t.mg), .slice E2 (nrm t.mg).length d2, .slice A5 rs.length c5] ∧ OutK wr W6.heap.size (.slice A5 rs.length c5) rs ∧ rs.length = i ∧ (∀ g, (Value.slice A5 rs.length c5).ownBlock = some g → T.News wr (T.cps (t.ks.take i)) g W6.heap.size wr.heap.size rs) ∧ Fr W6 wr (fun b => b = Bo))
   case atStart => exact ⟨0, [], none, 0, by omega, Nat.zero_le _, rfl, po6, OutK.nil _ _, rfl, (fun g e => by cases e), Fr.refl _ _⟩
   case round =>
    clear x0 x1 x2 x3 x4 x5
    obtain ⟨i, rs, A5, c5, hi, hin, rfl, pok, hO, hrl, hnw, hF⟩ := hrel
    have ptk := hF.blk pt6 (by omega)
    have prk := hF.blk pr6 (by omega)
    have hszk := hF.size
    obtain ⟨x0, x1, x2, x3, x4, x5⟩ := ptk.six
    obtain ⟨_, _, _, _, _, y5⟩ := pok.six
    by_cases hlt : i < n
    ·
     have hi3 : decide (i < n) = true := decide_eq_true hlt
     have hcl : rs.length = (T.cps (t.ks.take i)).length := by rw [T.cps_len, List.length_take, HN.out, hrl]; omega
     have HCL := Lib.hid hcl
     have HRL := Lib.hid hrl
     have HO := Lib.hid hO
     have HNW := Lib.hid hnw
     have hlen2 : rs.length < 1048576 := by omega
     clear hcl hrl hO hnw
     obtain ⟨b, o, rfl, hk⟩ := HK.out (by omega)
     have hkd := hk i hlt
     have hsn : T.cps (t.ks.take (i + 1)) = T.cps (t.ks.take i) ++ [T.cp (t.ks.getD i t0)] := (congrArg T.cps (take_snoc _ t0 _ (by rw [HN.out]; exact hlt))).trans (T.cps_snoc _ _)
     have HSN := Lib.hid hsn
     clear hsn
     obtain ⟨u, hu⟩ : ∃ u, t.ks.getD i t0 = u := ⟨_, rfl⟩
     rw [hu] at hkd
     have hub : u.bulk ≤ N := by rw [← hu]; exact T.kid_bulk HB.out (by rw [HN.out]; exact hlt)
     have HU := Lib.hid hu
     clear hk hu
     have hbr : Below w.heap.size w wr := below_fq hbA hF (fun k e => by have := HBt.out; omega)
     obtain ⟨B1, e1, B2, e2, B3, e3, h6, hkin⟩ := hkd.below hbr
     have HI := Lib.hid hkin
     clear hkin hkd
     obtain ⟨z0, z1, z2, z3, z4, z5⟩ := h6
     have hi0 : (0 : Int) ≤ i := by omega
     have hi1 : (i : Int) < n := by omega
     go_upto_region 6 with (fail)
     have hsz5 : W6.heap.size ≤ wr.heap.size := hF.size
     go_region_law ((first
      | (go_simp; go_at_call 26; refine (ih u _ R _ hub (by omega) (HI.out.below (by first | exact Below.refl _ _ | exact (Below.refl _ _).drew))).mono ?_; rintro e w2 ⟨c, rfl, hNew, hb2⟩; have hb2' : Below wr.heap.size wr w2 := below_on (by first | exact Below.refl _ _ | exact (Below.refl _ _).drew) hb2; obtain ⟨q, hq⟩ : ∃ q, T.cp u = q := ⟨_, rfl⟩; rw [hq] at hNew; have HQ := Lib.hid hq; have HNEW := Lib.hid hNew; obtain ⟨F1, f1, F2, f2, F3, f3, rfl⟩ := hNew.form; clear hq hNew; obtain ⟨_, _, _, _, _, y52⟩ := (pok.below hb2').six; obtain ⟨_, _, _, _, _, y53⟩ := ((pok.below hb2').below (below_alloc1 w2 (.cells #[.int .i64 q.k, .string q.nm, .slice F1 q.ns.length f1, .bool q.ng, .slice F2 q.mg.length f2, .slice F3 q.ks.length f3] 28))).six)
      | (refine step_append_kid rfl (.tmp 27) (.tmp 34) 26 rfl W6.heap.size i0 Tryz.underlying26 hinfo iz0 iz1 iz2 _ rs rfl (HO.out.below (below_on hb2' (below_alloc1 w2 (.cells #[.int .i64 q.k, .string q.nm, .slice F1 q.ns.length f1, .bool q.ng, .slice F2 q.mg.length f2, .slice F3 q.ks.length f3] 28)))) _ 1 (tc q.k q.nm F1 q.ns.length f1 q.ng F2 q.mg.length f2 F3 q.ks.length f3) rfl (kid_cells (Blk.new _ _ _)) (tc_one _ _ _ _ _ _ _ _ _ _ _ _) hlen2 (Nat.le_trans hsz5 (below_on hb2' (below_alloc1 w2 _)).size) ?_; intro g' cap w4 ho4 hg4 hor; have hb8 := below_on hb2' (below_alloc1 w2 (.cells #[.int .i64 q.k, .string q.nm, .slice F1 q.ns.length f1, .bool q.ng, .slice F2 q.mg.length f2, .slice F3 q.ks.length f3] 28)); have po4 := gb_blk (pok.below hb8) hg4 (fun e => by have := HO.out.base_le Bo e.symm; omega); obtain ⟨_, _, _, _, _, y54⟩ := po4.six; have fr54 := po4.free 5)))
     all_goals
      have hlen3 : (rs ++ [tc q.k q.nm F1 q.ns.length f1 q.ng F2 q.mg.length f2 F3 q.ks.length f3]).length = rs.length + 1 := by simp
      obtain ⟨W5, hW5⟩ : ∃ W, W = w4.setCell ⟨Bo, 5, none⟩ (.slice (some ⟨g', 0, none⟩) (rs.length + 1) cap) := ⟨_, rfl⟩
      rw [← hW5]
      have hsz4 : W6.heap.size ≤ w4.heap.size := Nat.le_trans hsz5 (Nat.le_trans hb8.size hg4.size)
      have hfar5 : ∀ b, b ≠ Bo → W5.heap[b]? = w4.heap[b]? := fun b hb => by rw [hW5]; exact Below.heap_setCell _ _ _ _ hb
      have hszw : W5.heap.size = w4.heap.size := by rw [hW5]; simp
      have PO := Lib.hid (show Blk W5 Bo 28 #[.int .i64 t.k, .string t.nm, .slice E1 t.ns.length d1, .bool (nrmS t.ng t.mg), .slice E2 (nrm t.mg).length d2, .slice (some ⟨g', 0, none⟩) (rs ++ [tc q.k q.nm F1 q.ns.length f1 q.ng F2 q.mg.length f2 F3 q.ks.length f3]).length cap] by rw [hlen3, hW5]; exact po4.put 5 _)
      have HO4 := Lib.hid (show OutK W5 W6.heap.size (.slice (some ⟨g', 0, none⟩) (rs ++ [tc q.k q.nm F1 q.ns.length f1 q.ng F2 q.mg.length f2 F3 q.ks.length f3]).length cap) _ by rw [hlen3]; exact ho4.far hsz4 (fun b h1 _ => hfar5 b (by omega)))
      have HNN : Hid (T.News W5 (T.cps (t.ks.take (i + 1))) g' W6.heap.size W5.heap.size (rs ++ [tc q.k q.nm F1 q.ns.length f1 q.ng F2 q.mg.length f2 F3 q.ks.length f3])) := Lib.hid (by
       rw [HSN.out, HU.out, HQ.out, hszw]
       exact T.News.keep _ _ _ _ _ (news_step HO.out HNW.out HCL.out hsz5 hb8 (Nat.le_refl _) (HNEW.out.below (Nat.le_refl _) (below_alloc1 _ _)) (below_alloc1 w2 _).size hg4 hor) (fun b h1 _ _ => hfar5 b (by omega)))
      have HFR : Hid (Fr W6 W5 (fun b => b = Bo)) := Lib.hid (by rw [hW5]; exact ((hF.below hb8).grown hg4 (fun k hk => .inr (HO.out.base_le k hk))).set (.inl rfl) 5 _)
      clear hW5 hfar5 hszw ho4 hg4 hor hb8 po4 y54 fr54 y52 y53 hb2' hb2 x0 x1 x2 x3 x4 x5 y5 z0 z1 z2 z3 z4 z5
      go_wp2_with fail
      go_roundg (n - i)
      case measure => omega
      case rel => exact ⟨i + 1, _, some ⟨g', 0, none⟩, cap, by omega, by omega, by go_num, PO.out, HO4.out, by rw [hlen3, HRL.out], (fun g e => by have e : some g' = some g := e; injection e with e; subst e; exact HNN.out), HFR.out⟩
    ·
     have hi3 : decide (i < n) = false := decide_eq_false hlt
     obtain rfl : i = n := by omega
     have htk : t.ks.take i = t.ks := by rw [← HN.out, List.take_length]
     rw [htk] at hnw
     have fr0 := prk.free 0
     have fr1 := prk.free 1
     have fr2 := prk.free 2
     have fr3 := prk.free 3
     have fr4 := prk.free 4
     have fr5 := prk.free 5
     obtain ⟨z0, z1, z2, z3, z4, z5⟩ := prk.six
     obtain ⟨y0, y1, y2, y3, y4, y5⟩ := pok.six
     have hsz5 : W6.heap.size ≤ wr.heap.size := hF.size
     have hbr : Below w.heap.size w wr := below_fq hbA hF (fun k e => by have := HBt.out; omega)
     have HO := Lib.hid hO
     have HNW := Lib.hid hnw
     have HRL := Lib.hid hrl
     clear hO hnw htk hrl
     go_wp2_with fail
     refine bodyPost_ret (results_cell_row rfl _ _ _ _ _ _ _ rfl ((((((prk.put 0 _).put 1 _).put 2 _).put 3 _).put 4 _).put 5 _) Tryz.underlying28 rfl sizeTree) rfl ?_
     refine ⟨tc t.k t.nm E1 t.ns.length d1 (nrmS t.ng t.mg) E2 (nrm t.mg).length d2 A5 rs.length c5, rfl, ?_, ?_⟩
     ·
      have hfar8 : ∀ b, b ≠ Bt + 1 → (((((((wr.setCell ⟨Bt + 1, 0, none⟩ (.int .i64 t.k)).setCell ⟨Bt + 1, 1, none⟩ (.string t.nm)).setCell ⟨Bt + 1, 2, none⟩ (.slice E1 t.ns.length d1)).setCell ⟨Bt + 1, 3, none⟩ (.bool (nrmS t.ng t.mg))).setCell ⟨Bt + 1, 4, none⟩ (.slice E2 (nrm t.mg).length d2)).setCell ⟨Bt + 1, 5, none⟩ (.slice A5 rs.length c5)).heap[b]? = wr.heap[b]?) := fun b h2 =>
       (((((Below.heap_setCell _ ⟨Bt + 1, 5, none⟩ _ _ h2).trans (Below.heap_setCell _ ⟨Bt + 1, 4, none⟩ _ _ h2)).trans (Below.heap_setCell _ ⟨Bt + 1, 3, none⟩ _ _ h2)).trans (Below.heap_setCell _ ⟨Bt + 1, 2, none⟩ _ _ h2)).trans (Below.heap_setCell _ ⟨Bt + 1, 1, none⟩ _ _ h2)).trans (Below.heap_setCell _ ⟨Bt + 1, 0, none⟩ _ _ h2)
      have hks : rs.length = (T.cps t.ks).length := by rw [T.cps_len, HN.out, HRL.out]
      rw [T.cp_eq]
      refine New.mk (m := W6.heap.size) (by have := HBt.out; omega) (by simp only [World.size_setCell]; omega) ?_ ?_ ?_ hks ?_
      · exact HS6.out.up (by have := HBt.out; omega) (Nat.le_refl _) (fun b h1 h2 => (hfar8 b (by omega)).trans (hF.block b h2 (by omega)))
      · exact HM6.out.upn (by have := HBt.out; omega) (Nat.le_refl _) (fun b h1 h2 h3 => (hfar8 b (by omega)).trans (hF.block b h2 h3))
      · exact HO.out.far hsz5 (fun b h1 _ => hfar8 b (by omega))
      · intro g e
        have := T.News.keep _ g _ _ rs (HNW.out g e) (fun b h1 h2 _ => hfar8 b (by omega))
        exact T.News.hi _ g _ _ _ rs this (by simp only [World.size_setCell]; omega)
     · have hB : w.heap.size ≤ Bt + 1 := by have := HBt.out; omega
       exact (((((hbr.setCell hB _).setCell hB _).setCell hB _).setCell hB _).setCell hB _).setCell hB _
end
end Go.Proofs.YthiadenmljbdaaaGreatDoor
