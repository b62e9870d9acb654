/-
  The document's store: Put of a new name: contract.
-/
import Derived.Test.YtmncamnlmpajbaaSRPut
import Derived.BigRegion
namespace Go.Proofs.Ytmncamnlmpajbaa
open Go.RowKit Go.Maps Go.WideMaps Go.Op

theorem row_after {w : World} {B n n1 : Nat} {v : Value} {rs : List (ByteArray × Kc)} {p : ByteArray × Kc} (hn : rs.length = n) (hn1 : n + 1 = n1) (h : w.ownsRow B 65 7 v (n + 1) (prow rs ++ pcl p)) :
    ∃ g cap cs, v = .slice (some ⟨g, 0, none⟩) n1 cap ∧ B ≤ g ∧ Blk w g 65 cs ∧ n1 ≤ cap ∧ cap ≤ maxLen ∧ cs.size = cap * 7 ∧ PCs cs (rs ++ [p]) := by
  have e : prow rs ++ pcl p = prow (rs ++ [p]) := by rw [prow_append]; simp [prow]
  rw [e, hn1] at h
  rcases row_open (rs := rs ++ [p]) (by rw [List.length_append, hn, ← hn1]; rfl) h with ⟨_, h0⟩ | ⟨g, cap, cs, h1, h2, h3, h4, h5, h6, h7⟩
  · omega
  · exact ⟨g, cap, cs, h1, h2, h3, h4, h5, h6, h7⟩
theorem pk_cells {w : World} {g : Nat} {t : TypeId} {nm : ByteArray} {c : Kc} (h : Blk w g t #[.string nm, c.1, c.2.1, c.2.2.1, c.2.2.2.1, c.2.2.2.2.1, c.2.2.2.2.2]) : ∀ j u, (pcl (nm, c))[j]? = some u → w.cell? ⟨g, j, none⟩ = some u := fun j u hu => by
  rw [h.cell, ← Array.getElem?_toList]
  exact hu
theorem pk_one {nm : ByteArray} {k : Int} {nm2 : ByteArray} {A1 : Option Addr} {n1 c1 : Nat} {ng : Bool} {A2 : Option Addr} {n2 c2 : Nat} {A3 : Option Addr} {n3 c3 : Nat} : ∀ u ∈ pcl (nm, tc k nm2 A1 n1 c1 ng A2 n2 c2 A3 n3 c3), u.oneCell' = true := by
  intro u hu
  simp only [pcl, kcl, List.mem_cons, List.not_mem_nil, or_false] at hu
  rcases hu with rfl | rfl | rfl | rfl | rfl | rfl | rfl
  all_goals rfl
theorem Pts.form {w : World} {R : Nat → Prop} {rs : List (ByteArray × Kc)} {L : Kl} (h : Pts w R rs L) {i : Nat} (hi : i < L.length) : ∃ nm k nm2 A1 n1 c1 ng A2 n2 c2 A3 n3 c3, rs.getD i pc0 = (nm, tc k nm2 A1 n1 c1 ng A2 n2 c2 A3 n3 c3) := by
  have hin := (h.2 i hi).2
  obtain ⟨A1, c1, A2, c2, A3, c3, hform, _⟩ := hin.form
  obtain ⟨⟨nm, a0, a1, a2, a3, a4, a5⟩, hrs⟩ : ∃ p, rs.getD i pc0 = p := ⟨_, rfl⟩
  rw [hrs] at hform
  injection hform with hform
  injection hform with hform
  simp only [List.cons.injEq, and_true] at hform
  obtain ⟨rfl, rfl, rfl, rfl, rfl, rfl⟩ := hform
  exact ⟨_, _, _, _, _, _, _, _, _, _, _, _, _, hrs⟩
theorem ins_at {α : Type} (R : List α) (x d : α) (j : Nat) (hj : j ≤ R.length) : (R.take j ++ x :: R.drop j).length = R.length + 1 ∧ (R.take j ++ x :: R.drop j).getD j d = x ∧ ∀ i, i < j → (R.take j ++ x :: R.drop j).getD i d = R.getD i d := by
  have hl : (R.take j).length = j := by rw [List.length_take]; omega
  refine ⟨by simp; omega, ?_, fun i hi => ?_⟩
  · simp [List.getD, hl]
  · simp [List.getD, List.getElem?_append_left (show i < (R.take j).length by omega), List.getElem?_take_of_lt hi]
/-- Two kept trees change places. -/
theorem row_swap {w : World} {g cap i : Nat} {cs : Array Value} {rs : List (ByteArray × Kc)} {nm nmd : ByteArray} {c d : Kc} (hg : Blk w g 65 cs) (hs : cs.size = cap * 7) (hn : rs.length + 1 ≤ cap) (hi : i < rs.length) (ht : PCs cs (rs.take (i + 1) ++ (nm, c) :: rs.drop (i + 1))) (hd : rs.getD i pc0 = (nmd, d)) :
    ∃ cs', Blk (set7 (set7 w g ((i + 1) * 7) nmd d) g (i * 7) nm c) g 65 cs' ∧ cs'.size = cap * 7 ∧ PCs cs' (rs.take i ++ (nm, c) :: rs.drop i) := by
  obtain ⟨h1, _, _⟩ := ins_at rs (nm, c) pc0 (i + 1) (by omega)
  obtain ⟨cs1, b1, s1, p1⟩ := row_put7 hg hs (by omega) ht (show i + 1 < _ by omega) nmd d
  obtain ⟨cs2, b2, s2, p2⟩ := row_put7 b1 s1 (by rw [List.length_set]; omega) p1 (show i < _ by rw [List.length_set]; omega) nm c
  refine ⟨cs2, b2, s2, ?_⟩
  have := swap_down rs (nm, c) pc0 (i + 1) (by omega) (by omega)
  rw [Nat.add_sub_cancel, hd] at this
  rw [this] at p2
  exact p2
theorem row_swap' {w : World} {g cap i : Nat} {cs : Array Value} {rs : List (ByteArray × Kc)} {nm nmd : ByteArray} {c d : Kc} (hg : Blk w g 65 cs) (hs : cs.size = cap * 7) (hn : rs.length + 1 ≤ cap) (hi : i < rs.length) (ht : PCs cs (rs.take (i + 1) ++ (nm, c) :: rs.drop (i + 1))) (hd : rs.getD i pc0 = (nmd, d)) :
    ∃ cs', Blk (set7 (set7 w g (i * 7) nm c) g ((i + 1) * 7) nmd d) g 65 cs' ∧ cs'.size = cap * 7 ∧ PCs cs' (rs.take i ++ (nm, c) :: rs.drop i) := by
  obtain ⟨h1, _, _⟩ := ins_at rs (nm, c) pc0 (i + 1) (by omega)
  obtain ⟨cs1, b1, s1, p1⟩ := row_put7 hg hs (by omega) ht (show i < _ by omega) nm c
  obtain ⟨cs2, b2, s2, p2⟩ := row_put7 b1 s1 (by rw [List.length_set]; omega) p1 (show i + 1 < _ by rw [List.length_set]; omega) nmd d
  refine ⟨cs2, b2, s2, ?_⟩
  have := swap_down rs (nm, c) pc0 (i + 1) (by omega) (by omega)
  rw [Nat.add_sub_cancel, hd, List.set_comm _ _ (by omega)] at this
  rw [this] at p2
  exact p2
/-- Behind the last swap. -/
theorem rput_end {w wr W9 : World} {w5n w7n w8n : Nat} {w7 : World} {Q B n n1 cc g9 c9 p : Nat} {A : Option Addr} {Z : Nat → Prop} {L : Kl} {nm : ByteArray} {t q : T} {c : Kc} {rs : List (ByteArray × Kc)} {cs : Array Value} (h : RSt w Q (.slice A L.length cc) B Z L) (hB : B ≤ w.heap.size) (hZn : ∀ b, w.heap.size ≤ b → Z b) (hg : lget nm L = none) (hL : L.length = n) (hrl : rs.length = n) (hP : plc nm L = p) (hn1 : n + 1 = n1) (hcp : t.cp = q)
    (hpts : Pts w (fun b => B ≤ b ∧ (Value.slice A L.length cc).ownBlock ≠ some b ∧ Z b) rs L) (hf : Rising (lput nm t.cp L) ∧ total (lput nm t.cp L) ≤ 3000 ∧ (lput nm t.cp L).length ≤ 40 ∧ (∀ p ∈ lput nm t.cp L, p.2.bulk ≤ 1048576 ∧ p.1.size ≤ 1048576))
    (hQj : Blk wr Q 41 #[.slice (some ⟨g9, 0, none⟩) n1 c9]) (hgB : B ≤ g9) (hbj : Blk wr g9 65 cs) (hn9 : n1 ≤ c9) (hm9 : c9 ≤ maxLen) (hsj : cs.size = c9 * 7) (hpc : PCs cs (rs.take p ++ (nm, c) :: rs.drop p))
    (hF9 : Fr w W9 (fun b => b = Q ∨ (Value.slice A n cc).ownBlock = some b)) (hFj : Fr W9 wr (fun b => b = g9)) (hO : (Value.slice A n cc).ownBlock = some g9 ∨ w8n ≤ g9) (hnew : T.New w7 q w5n w7n c) (h15 : w.heap.size ≤ w5n) (h78 : w7n ≤ w8n) (h89 : w8n ≤ W9.heap.size)
    (hsm : ∀ b, w5n ≤ b → b < w7n → W9.heap[b]? = w7.heap[b]?) (hlo : ∀ k, (Value.slice A n cc).ownBlock = some k → B ≤ k ∧ k < w.heap.size) :
    ∃ v', RSt wr Q v' B Z (lput nm t.cp L) ∧ Fr w wr (fun b => b = Q ∨ (Value.slice A L.length cc).ownBlock = some b) ∧ (∀ b, v'.ownBlock = some b → (Value.slice A L.length cc).ownBlock = some b ∨ w.heap.size ≤ b) := by
  have hQB := h.1
  have hle := hnew.le
  rw [hL] at hpts ⊢
  have hF : Fr w wr (fun b => b = Q ∨ (Value.slice A n cc).ownBlock = some b) := hF9.step hFj (fun k (e : k = g9) => by
    subst e
    rcases hO with e | e
    · exact .inl (.inr e)
    · exact .inr (by omega))
  have hput : lput nm q L = L.take p ++ (nm, q) :: L.drop p := by rw [← hP]; exact lput_away q hg
  have hple : p ≤ n := by rw [← hP, ← hL]; exact plc_le nm L
  rw [hcp, hput] at hf ⊢
  have hg9 : ∀ b, b < w.heap.size → (Value.slice A n cc).ownBlock ≠ some b → g9 ≠ b := fun b hb hne e => by
    subst e
    rcases hO with e | e
    · exact hne e
    · omega
  have hg97 : g9 < w5n ∨ w7n ≤ g9 := by
    rcases hO with e | e
    · have := (hlo g9 e).2; omega
    · omega
  have hin : T.In wr (fun b => B ≤ b ∧ (Value.slice (some ⟨g9, 0, none⟩) n1 c9).ownBlock ≠ some b ∧ Z b) q (kv c) := by
    refine T.New.In q w5n w7n c _ (T.New.keep (w := w7) _ _ _ _ hnew (fun b h1 h2 => ?_)) (fun b h1 h2 => ⟨by omega, fun e => ?_, hZn b (by omega)⟩)
    · exact (hFj.block b (by omega) (by omega)).trans (hsm b h1 h2)
    · have e : some g9 = some b := e
      injection e with e
      omega
  have hold : Pts wr (fun b => B ≤ b ∧ (Value.slice (some ⟨g9, 0, none⟩) n1 c9).ownBlock ≠ some b ∧ Z b) rs L := hpts.keep hF (fun b hb hR => ⟨⟨hR.1, fun e => (by
    have e : some g9 = some b := e
    injection e with e
    exact hg9 b hb hR.2.1 e), hR.2.2⟩, fun e => by
      rcases e with e | e
      · have := hR.1; omega
      · exact hR.2.1 e⟩)
  have hpt := (hold.take p).append ((Pts.one (p := (nm, c)) (q := (nm, q)) rfl hin).append (hold.drop p))
  have hll : (L.take p ++ (nm, q) :: L.drop p).length = n1 := by
    rw [(ins_at L (nm, q) kd p (by omega)).1, hL]; exact hn1
  refine ⟨.slice (some ⟨g9, 0, none⟩) n1 c9, RSt.of hQB hQj hf.1 hf.2.1 hf.2.2.1 hf.2.2.2 hpt ?_, hF, fun b e => ?_⟩
  · rw [hll]
    exact row_mk (by show (rs.take p ++ (nm, c) :: rs.drop p).length = n1; rw [(ins_at rs (nm, c) pc0 p (by omega)).1, hrl]; exact hn1) hgB hbj hn9 hm9 hsj hpc
  · have e : some g9 = some b := e
    injection e with e
    subst e
    rcases hO with e | e
    · exact .inl e
    · exact .inr (by omega)
section
variable {w : World} {Q B : Nat} {v : Value} {Z : Nat → Prop} {L : Kl}
set_option maxRecDepth 100000 in
set_option maxHeartbeats 6400000 in
theorem rput_away (h : RSt w Q v B Z L) (nm : ByteArray) (hnm : nm.size ≤ 1048576) (t : T) (tw : Value) (R0 : Nat → Prop) (hbt : t.bulk ≤ 1048576) (ht : T.In w R0 t tw) (hZn : ∀ b, w.heap.size ≤ b → Z b) (hB : B ≤ w.heap.size) (hnb : nameB nm = true) (hc : t.chk = 0) (hg : lget nm L = none) :
    Calls Try.prog 27 #[.pointer (some ⟨Q, 0, none⟩), .string nm, tw] w fun e w' => ∃ v', e = .returned (.int .i64 (if big nm t L = true then 222 else 0)) ∧ RSt w' Q v' B Z (if big nm t L = true then L else lput nm t.cp L) ∧ Fr w w' (fun b => b = Q ∨ v.ownBlock = some b) ∧ (∀ b, v'.ownBlock = some b → v.ownBlock = some b ∨ w.heap.size ≤ b) := by
  obtain ⟨A1, c1, A2, c2, A3, c3, rfl, _⟩ := ht.form
  have hq := h.2.1
  have HRS := Lib.hid (fun (w' : World) (hb : Below w.heap.size w w') => h.below hb)
  have HIN := Lib.hid (fun (w' : World) (hb : Below w.heap.size w w') => ht.below hb)
  have HNB := Lib.hid (show X.name nm.data.toList = true from hnb)
  have HC := Lib.hid hc
  have HPL := Lib.hid (fun (w' : World) (hb : Below w.heap.size w w') => place_r (h.below hb) nm)
  have HQ := Lib.hid (fun (w' : World) (hb : Below w.heap.size w w') => hq.below hb)
  have hnl := h.2.2.2.2.1
  have htl := h.2.2.2.1
  have HR := Lib.hid h
  obtain ⟨A, cc, rfl, hcc, hrow⟩ := h.form
  obtain ⟨n, hL⟩ : ∃ n, L.length = n := ⟨_, rfl⟩
  obtain ⟨p, hp⟩ : ∃ p, plc nm L = p := ⟨_, rfl⟩
  obtain ⟨tl, htt⟩ : ∃ tl, total L = tl := ⟨_, rfl⟩
  obtain ⟨s, hs⟩ : ∃ s, sz t = s := ⟨_, rfl⟩
  have hs3 : s ≤ 3001 := by rw [← hs]; exact Nat.min_le_right _ _
  have hple := plc_le nm L
  rw [hp, hL] at hple
  have HNO := Lib.hid (fun (w' : World) (hb : Below w.heap.size w w') => rnodes_s (HR.out.below hb))
  have HSZ := Lib.hid (fun (w' : World) (hb : Below w.heap.size w w') => rsize_l t w' R0 _ hbt (HIN.out w' hb))
  rw [hL] at hcc hrow hnl HQ
  rw [htt] at htl HNO
  rw [hs] at HSZ
  rw [hp, hg] at HPL
  have HROW := Lib.hid hrow
  have HL := Lib.hid hL
  have HP := Lib.hid hp
  have HT := Lib.hid htt
  have HS := Lib.hid hs

  have hbgd : big nm t L = (decide (40 ≤ n) || decide (3000 < s + tl)) := by unfold big; rw [hg, hs, ldel_away hg, hL, htt]; rfl

  obtain ⟨bg, hbg⟩ : ∃ bg, big nm t L = bg := ⟨_, rfl⟩
  have hfit := lput_fits h hnm hbt ht
  rw [hbg] at hbgd hfit ⊢
  have HFIT := Lib.hid hfit
  clear hfit
  clear h ht hq hnb hc hrow hL hp htt hs hbg
  go_enter Try.func27, Try.ntmps27
  go_upto_region 1 with (fail)
  obtain ⟨W1, hW1, pt, hb1⟩ := made_blk w #[.int .i64 t.k, .string t.nm, .slice A1 t.ns.length c1, .bool t.ng, .slice A2 t.mg.length c2, .slice A3 t.ks.length c3] 35
  obtain ⟨Bt, hBt⟩ : ∃ b, b = w.heap.size := ⟨_, rfl⟩
  rw [← hW1, ← hBt]
  rw [← hBt] at pt
  have HBT := Lib.hid hBt
  clear hW1 hBt
  obtain ⟨x0, x1, x2, x3, x4, x5⟩ := pt.six
  go_upto_region 2 with (go_at_call 40; refine (isname_r _ nm (Nat.le_trans hnm (by decide))).mono ?_; rintro e w2 ⟨rfl, rfl⟩; rw [HNB.out])
  go_upto_region 5 with (go_at_call 41; refine (rcheck_t t _ R0 _ hbt (HIN.out _ hb1)).mono ?_; rw [HC.out]; rintro e w3 ⟨rfl, hb3⟩)
  have hp3 := pt.below hb3
  obtain ⟨x0, x1, x2, x3, x4, x5⟩ := hp3.six
  have hb13 := below_on hb1 hb3
  go_upto_region 8 with (go_at_call 42; refine (HPL.out _ hb13).mono ?_; rintro e w4 ⟨rfl, hb4⟩)
  have hp4 := hp3.below hb4
  have hb14 := below_on hb13 hb4
  have q4 : w4.cell? ⟨Q, 0, none⟩ = some (.slice A n cc) := (HQ.out _ hb14).cell 0
  clear x0 x1 x2 x3 x4 x5
  obtain ⟨x0, x1, x2, x3, x4, x5⟩ := hp4.six
  go_upto_region 9 with (fail)
  obtain ⟨m, hm⟩ : ∃ m, tl + s = m := ⟨_, rfl⟩
  go_cut [12] from 15 (fun v12 wd => v12 = .int .i64 (m : Nat) ∧ Below w4.heap.size w4 wd)
  case first =>
    have hw0 : (tl : Int) + (s : Int) = (m : Nat) := by omega
    have hwm : IntKind.i64.wrap (m : Int) = m := by simp [IntKind.wrap, IntKind.bits, IntKind.signed]; omega
    go_region_held (fun w' => w'.cell? ⟨Bt, 0, none⟩ = some (.int .i64 t.k) ∧ w'.cell? ⟨Bt, 1, none⟩ = some (.string t.nm) ∧ w'.cell? ⟨Bt, 2, none⟩ = some (.slice A1 t.ns.length c1) ∧ w'.cell? ⟨Bt, 3, none⟩ = some (.bool t.ng) ∧ w'.cell? ⟨Bt, 4, none⟩ = some (.slice A2 t.mg.length c2) ∧ w'.cell? ⟨Bt, 5, none⟩ = some (.slice A3 t.ks.length c3)) (go_keep) (first
      | (go_at_call 13; refine (HNO.out _ hb14.drew).mono ?_; rintro e w5 ⟨rfl, hbn⟩; have hbx : Below w4.heap.size w4 w5 := below_on (Below.refl w4.heap.size w4).drew hbn; obtain ⟨z0, z1, z2, z3, z4, z5⟩ := (hp4.below hbx).six)
      | (go_at_call 13; refine (HNO.out _ (below_on hb14 hby)).mono ?_; rintro e w6 ⟨rfl, hbn⟩; have hbx : Below w4.heap.size w4 w6 := below_on hby hbn; obtain ⟨z0, z1, z2, z3, z4, z5⟩ := (hp4.below hbx).six)
      | (go_at_call 24; refine (HSZ.out _ hb14.drew).mono ?_; rintro e w5 ⟨rfl, hbn⟩; have hby : Below w4.heap.size w4 w5 := below_on (Below.refl w4.heap.size w4).drew hbn; obtain ⟨z0, z1, z2, z3, z4, z5⟩ := (hp4.below hby).six)
      | (go_at_call 24; refine (HSZ.out _ (below_on hb14 hbx)).mono ?_; rintro e w6 ⟨rfl, hbn⟩; have hby : Below w4.heap.size w4 w6 := below_on hbx hbn; obtain ⟨z0, z1, z2, z3, z4, z5⟩ := (hp4.below hby).six))
    all_goals
      go_wp2_with fail
      go_meet
      exact ⟨by first | rfl | rw [hwm], by first | exact hbx | exact hby⟩
  obtain ⟨rfl, hb5⟩ := hcut
  rename World => w5
  have hp5 := hp4.below hb5
  have hb15 := below_on hb14 hb5
  have q5 : w5.cell? ⟨Q, 0, none⟩ = some (.slice A n cc) := (HQ.out _ hb15).cell 0
  clear x0 x1 x2 x3 x4 x5 q4
  obtain ⟨x0, x1, x2, x3, x4, x5⟩ := hp5.six

  obtain ⟨n1, hn1⟩ : ∃ n1, n + 1 = n1 := ⟨_, rfl⟩
  have hcn : (n : Int) + 1 = (n1 : Nat) := by omega
  have HC13 := Lib.hid (fun (hb : bg = false) => (show n < 40 ∧ tl + s ≤ 3000 by
    rw [hb] at hbgd
    have hbgd := Bool.or_eq_false_iff.1 hbgd.symm
    have h1 := of_decide_eq_false hbgd.1
    have h2 := of_decide_eq_false hbgd.2
    omega))
  have HC13t := Lib.hid (fun (hb : bg = true) => (show 40 < n1 ∨ 3000 < m by
    rw [hb] at hbgd
    have hbgd := Bool.or_eq_true_iff.1 hbgd.symm
    rcases hbgd with h | h
    · exact .inl (by have := of_decide_eq_true h; omega)
    · exact .inr (by have := of_decide_eq_true h; omega)))
  clear hbgd
  go_upto_region 13 with (fail)
  cases bg with
  | true =>
    by_cases hd1 : 40 < n1
    · go_wp2_with fail
      go_ret
      first
        | exact ⟨_, rfl, HR.out.below hb15, (Fr.refl w _).below hb15, fun b hb => .inl hb⟩
        | exact ⟨rfl, _, HR.out.below hb15, (Fr.refl w _).below hb15, fun b hb => .inl hb⟩
    · have hd2 : 3000 < m := (HC13t.out (by trivial)).resolve_left hd1
      go_wp2_with fail
      go_ret
      first
        | exact ⟨_, rfl, HR.out.below hb15, (Fr.refl w _).below hb15, fun b hb => .inl hb⟩
        | exact ⟨rfl, _, HR.out.below hb15, (Fr.refl w _).below hb15, fun b hb => .inl hb⟩
  | false =>
    obtain ⟨hn40, hm3⟩ := HC13.out (by trivial)
    have hd1 : ¬ 40 < n1 := by omega
    have hd2 : ¬ 3000 < m := by omega
    go_upto_region 16 with (go_at_call 43; refine (rcopy_t _ t _ R0 _ hbt (Nat.le_refl _) (HIN.out _ hb15)).mono ?_; rintro e w7 ⟨k, rfl, hNew, hb7⟩; obtain ⟨q, hq⟩ : ∃ q, T.cp t = q := ⟨_, rfl⟩; rw [hq] at hNew; have HCP := Lib.hid hq; clear hq; have HNEW := Lib.hid hNew; obtain ⟨F1, f1, F2, f2, F3, f3, rfl⟩ := hNew.form; clear hNew)
    obtain ⟨W8, hW8, pk, hb8⟩ := made_blk w7 #[.string nm, .int .i64 q.k, .string q.nm, .slice F1 q.ns.length f1, .bool q.ng, .slice F2 q.mg.length f2, .slice F3 q.ks.length f3] 65
    obtain ⟨Bk, hBk⟩ : ∃ b, b = w7.heap.size := ⟨_, rfl⟩
    rw [← hW8, ← hBk]
    rw [← hBk] at pk
    have hb17 := below_on hb15 hb7
    have hb18 := below_on hb17 hb8
    have q8 : W8.cell? ⟨Q, 0, none⟩ = some (.slice A n cc) := (HQ.out _ hb18).cell 0
    have k0 := pk.cell 0
    have k1 := pk.cell 1
    have k2 := pk.cell 2
    have k3 := pk.cell 3
    have k4 := pk.cell 4
    have k5 := pk.cell 5
    have k6 := pk.cell 6
    simp only [List.getElem?_toArray, List.getElem?_cons_zero, List.getElem?_cons_succ] at k0 k1 k2 k3 k4 k5 k6
    have HBK := Lib.hid hBk
    clear hW8 hBk q5 x0 x1 x2 x3 x4 x5
    obtain ⟨rs, hpts, hown⟩ := HR.out.pts
    rw [HL.out] at hown
    have hrl := hpts.1.trans HL.out
    have HPTS := Lib.hid hpts
    have hQB := HR.out.1
    have hQl : Q < w.heap.size := (HQ.out w (Below.refl _ _)).lt
    have hlo := own_lo7 hown
    clear hpts
    obtain ⟨i0, hinfo, iz0, iz1, iz2⟩ := info_parts info_kept
    have HN1 := Lib.hid hn1
    have hnn : n < 1048576 := by omega
    have hsz8 : w.heap.size ≤ W8.heap.size := hb18.size
    obtain ⟨c, hc⟩ : ∃ c, c = tc q.k q.nm F1 q.ns.length f1 q.ng F2 q.mg.length f2 F3 q.ks.length f3 := ⟨_, rfl⟩
    have HC := Lib.hid hc
    have HOWN := Lib.hid (fun (w' : World) (hb : Below W8.heap.size W8 w') => own_fr (x := fun _ => False) hown ((Fr.refl w _).below (below_on hb18 hb)) (fun _ _ h => h))
    have HLO := Lib.hid hlo
    clear hown hn1 hc hlo
    go_upto_region 19 with (fail)
    go_cut [] from 15 (fun wd => ∃ g9 c9 cs9, Blk wd Q 41 #[.slice (some ⟨g9, 0, none⟩) n1 c9] ∧ B ≤ g9 ∧ Blk wd g9 65 cs9 ∧ n1 ≤ c9 ∧ c9 ≤ maxLen ∧ cs9.size = c9 * 7 ∧ PCs cs9 (rs ++ [(nm, c)]) ∧
      Fr w wd (fun b => b = Q ∨ (Value.slice A n cc).ownBlock = some b) ∧ ((Value.slice A n cc).ownBlock = some g9 ∨ W8.heap.size ≤ g9) ∧ (∀ b, w5.heap.size ≤ b → b < w7.heap.size → wd.heap[b]? = w7.heap[b]?) ∧ W8.heap.size ≤ wd.heap.size)
    case first =>
      have f80 : W8.frozen? ⟨Q, 0, none⟩ = false := (HQ.out _ hb18).free 0
      have q8a := keep_cell q8 (below_alloc1 W8 (.cells #[.string nm, .int .i64 q.k, .string q.nm, .slice F1 q.ns.length f1, .bool q.ng, .slice F2 q.mg.length f2, .slice F3 q.ks.length f3] 65))
      have f8a := ((HQ.out _ hb18).below (below_alloc1 W8 (.cells #[.string nm, .int .i64 q.k, .string q.nm, .slice F1 q.ns.length f1, .bool q.ng, .slice F2 q.mg.length f2, .slice F3 q.ks.length f3] 65))).free 0
      go_region_law ((refine step_append_k7 rfl (.tmp 76) (.tmp 78) 39 rfl B i0 Try.underlying39 hinfo iz0 iz1 iz2 _ n (prow rs) rfl (HOWN.out _ (by first | exact (below_alloc1 W8 _).drew | exact below_alloc1 W8 _ | exact below_on (Below.refl W8.heap.size W8).drew (below_alloc1 _ _))) _ 1 (nm, tc q.k q.nm F1 q.ns.length f1 q.ng F2 q.mg.length f2 F3 q.ks.length f3) rfl (pk_cells (heap_alloc_new W8 _)) pk_one hnn (Nat.le_trans hB (Nat.le_trans hsz8 (below_alloc1 W8 _).size)) ?_; intro v9 w9 hown9 hg9 hor9; obtain ⟨g9, c9, cs9, rfl, hB9, hb9, hn9, hm9, hs9, hp9⟩ := row_after hrl HN1.out hown9; have q9 := gb_blk (HQ.out _ (below_on hb18 (by first | exact (below_alloc1 W8 _).drew | exact below_alloc1 W8 _))) hg9 (fun e => by have := (HLO.out Q e.symm).1; omega); have fq9 := q9.free 0; have cq9 : w9.cell? ⟨Q, 0, none⟩ = some (.slice A n cc) := q9.cell 0))
      all_goals
        have hgq : g9 ≠ Q := by omega
        go_wp2_with fail
        go_meet
        rw [← HC.out] at hp9
        refine ⟨g9, c9, cs9, q9.put 0 _, hB9, hb9.far hgq 0 _, hn9, hm9, hs9, hp9, ?_, ?_, ?_, ?_⟩
        · exact (((Fr.refl w _).below (below_on hb18 (below_alloc1 W8 _).drew)).grown hg9 (fun k e => .inl (.inr e))).set (.inl (.inl rfl)) 0 _
        · rcases hor9 g9 rfl with e | e
          · exact .inl e
          · exact .inr (Nat.le_trans (below_alloc1 W8 _).size e)
        · intro b h1 h2
          have hs15 := hb15.size
          have hs8 := hb8.size
          have hbq : b ≠ Q := by omega
          refine (Below.heap_setCell _ ⟨Q, 0, none⟩ _ _ hbq).trans ((hg9.block b ?_ (fun e => by have := (HLO.out b e.symm).2; omega)).trans (((below_alloc1 W8 _).block b (by omega)).trans (hb8.block b h2)))
          exact Nat.lt_of_lt_of_le h2 (Nat.le_trans hs8 (below_alloc1 W8 _).size)
        · have h1 := (below_alloc1 W8 (.cells #[.string nm, .int .i64 q.k, .string q.nm, .slice F1 q.ns.length f1, .bool q.ng, .slice F2 q.mg.length f2, .slice F3 q.ks.length f3] 65)).size
          have h2 : _ ≤ w9.heap.size := hg9.size
          have h3 : (w9.setCell ⟨Q, 0, none⟩ (.slice (some ⟨g9, 0, none⟩) n1 c9)).heap.size = w9.heap.size := by simp
          show W8.heap.size ≤ (w9.setCell ⟨Q, 0, none⟩ (.slice (some ⟨g9, 0, none⟩) n1 c9)).heap.size
          rw [h3]
          exact Nat.le_trans h1 h2
    obtain ⟨g9, c9, cs9, hQ9, hgB9, hb9, hn9, hm9, hs9, hp9, hF9, ho9, hsame9, hsz9⟩ := hcut
    have HSZ9 := Lib.hid hsz9
    clear hsz9
    rename World => W9
    have qc : W9.cell? ⟨Q, 0, none⟩ = some (.slice (some ⟨g9, 0, none⟩) n1 c9) := hQ9.cell 0
    have hn1m : (n1 : Int) - 1 = (n : Nat) := by have := HN1.out; omega
    have HP9 := Lib.hid hp9
    have HSM := Lib.hid hsame9
    have HF9 := Lib.hid hF9
    have HO9 := Lib.hid ho9
    clear k0 k1 k2 k3 k4 k5 k6 q8 hp9 hsame9 hF9 ho9 pk
    go_wp2_with fail
    go_loopw [14] (fun vj wr => ∃ (j : Nat) (cs : Array Value), p ≤ j ∧ j ≤ n ∧ vj = .int .i64 (j : Nat) ∧ Blk wr g9 65 cs ∧ cs.size = c9 * 7 ∧ PCs cs (rs.take j ++ (nm, c) :: rs.drop j) ∧ Fr W9 wr (fun b => b = g9)) (fun vj _ => (intOf vj).toNat)
    case atStart => exact ⟨n, cs9, hple, Nat.le_refl _, rfl, hb9, hs9, by rw [List.take_of_length_le (by omega), List.drop_of_length_le (by omega)]; exact HP9.out, Fr.refl _ _⟩
    case round =>
      obtain ⟨j, cs, hpj, hjn, rfl, hbj, hsj, hpc, hFj⟩ := hrel
      have hgq : Q ≠ g9 := by omega
      have hQj := hFj.blk hQ9 hgq
      have qj : wr.cell? ⟨Q, 0, none⟩ = some (.slice (some ⟨g9, 0, none⟩) n1 c9) := hQj.cell 0
      clear qc hn1m
      by_cases hlt : p < j
      · obtain ⟨i, hi⟩ : ∃ i, j = i + 1 := ⟨j - 1, by omega⟩
        have hd3 : decide (p < j) = true := decide_eq_true hlt
        have hji : (j : Int) - 1 = (i : Nat) := by omega
        have hHN := HN1.out
        have hj0 : (0 : Int) ≤ j := by omega
        have hj1 : (j : Int) < n1 := by omega
        have hi0 : (0 : Int) ≤ i := by omega
        have hi1 : (i : Int) < n1 := by omega
        clear hHN
        obtain ⟨hin1, hin2, hin3⟩ := ins_at rs (nm, c) pc0 j (by omega)
        obtain ⟨nmd, dk, dn, D1, e1, d1, dg, D2, e2, d2, D3, e3, d3, hdf⟩ := HPTS.out.form (i := i) (by rw [HL.out]; omega)
        have hgi := (hin3 i (by omega)).trans hdf
        obtain ⟨y0, y1, y2, y3, y4, y5, y6⟩ := row_seven hbj hpc (by rw [hin1]; omega) hin2
        obtain ⟨z0, z1, z2, z3, z4, z5, z6⟩ := row_seven hbj hpc (by rw [hin1]; omega) hgi
        rw [HC.out] at y1 y2 y3 y4 y5 y6
        dsimp only at y0 y1 y2 y3 y4 y5 y6 z0 z1 z2 z3 z4 z5 z6
        have f0 := hbj.free (j * 7)
        have f1' := hbj.free (j * 7 + 1)
        have f2' := hbj.free (j * 7 + 2)
        have f3' := hbj.free (j * 7 + 3)
        have f4 := hbj.free (j * 7 + 4)
        have f5 := hbj.free (j * 7 + 5)
        have f6 := hbj.free (j * 7 + 6)
        have k0 := hbj.free (i * 7)
        have k1 := hbj.free (i * 7 + 1)
        have k2 := hbj.free (i * 7 + 2)
        have k3 := hbj.free (i * 7 + 3)
        have k4 := hbj.free (i * 7 + 4)
        have k5 := hbj.free (i * 7 + 5)
        have k6 := hbj.free (i * 7 + 6)
        have HI := Lib.hid hi
        have HDF := Lib.hid hdf
        have HPC := Lib.hid hpc
        clear hi hin1 hin2 hin3 hdf hgi hpc
        go_upto_region 23 with (fail)
        go_region
        all_goals
          clear y0 y1 y2 y3 y4 y5 y6 z0 z1 z2 z3 z4 z5 z6 f0 f1' f2' f3' f4 f5 f6 k0 k1 k2 k3 k4 k5 k6 qj
          obtain ⟨WN, hWN⟩ : ∃ W, set7 (set7 wr g9 (j * 7) nmd (tc dk dn D1 e1 d1 dg D2 e2 d2 D3 e3 d3)) g9 (i * 7) nm (tc q.k q.nm F1 q.ns.length f1 q.ng F2 q.mg.length f2 F3 q.ks.length f3) = W := ⟨_, rfl⟩
          have hWN2 := hWN
          dsimp only [set7, tc] at hWN2
          rw [hWN2]
          clear hWN2
          obtain ⟨ca, b1, s1, p1⟩ := row_swap hbj hsj (by have := HN1.out; omega) (by omega) (by rw [← HI.out]; exact HPC.out) HDF.out
          rw [← HI.out, HC.out, hWN] at b1
          have HFN : Hid (Fr W9 WN (fun b => b = g9)) := Lib.hid (by rw [← hWN]; exact set7_fr (set7_fr hFj _ _ _ (.inl rfl)) _ _ _ (.inl rfl))
          have HP1 := Lib.hid p1
          clear hWN hbj hQj hFj p1
          go_wp2_with fail
          go_roundw
          case measure => simp [intOf]; omega
          case rel => exact ⟨i, ca, by omega, by omega, rfl, b1, s1, HP1.out, HFN.out.drew⟩
      · have hd3 : decide (p < j) = false := decide_eq_false hlt
        have hjp : j = p := by omega
        have HJP := Lib.hid hjp
        have HPC := Lib.hid hpc
        clear hjp hpc
        go_wp2_with fail
        go_ret
        obtain ⟨v', h1, h2, h3⟩ := rput_end HR.out hB hZn hg HL.out hrl HP.out HN1.out HCP.out HPTS.out (HFIT.out (by trivial)) hQj hgB9 hbj hn9 hm9 hsj (by rw [← HJP.out]; exact HPC.out) HF9.out hFj HO9.out (by rw [HC.out]; exact HNEW.out) hb15.size hb8.size HSZ9.out HSM.out HLO.out
        first
          | exact ⟨_, rfl, h1, h2, h3⟩
          | exact ⟨rfl, _, h1, h2, h3⟩
end
end Go.Proofs.Ytmncamnlmpajbaa
