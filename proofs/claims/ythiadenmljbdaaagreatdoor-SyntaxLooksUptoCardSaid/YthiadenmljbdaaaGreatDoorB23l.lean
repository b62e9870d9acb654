/-
  l: the parts TOwn TUns.
-/
import Derived.Test.YthiadenmljbdaaaGreatDoorB22l
import Derived.Test.YthiadenmljbdaaaGreatDoorB9l
import Derived.Laws.CopyOwn
import Derived.Test.YthiadenmljbdaaaGreatDoorB12l
namespace Go.Proofs.YthiadenmljbdaaaGreatDoor
section
open Go.RowKit
theorem wpList_make_blk {P : Program} (w : World) {ops : Array Oper} {rest : List Oper} {o : Oper} {a : Act} {Q : Exit → Act → World → Prop}
    (hg : o.guard = none) (l c : Operand) (t : TypeId) (hop : o.op = Op.makeSlice t l c) (e : TypeId) (i : TypeInfo) (z : Value) (size : Nat) (h1 : P.underlying t = some (.slice e)) (h2 : P.info? e = some i) (h3 : i.zero = some z) (h4 : i.size = size)
    (kl kc : IntKind) (L C : Int) (n : Nat) (hl : a.eval l = .int kl L) (hc : a.eval c = .int kc C) (hL : L = (n : Int)) (hC : C = (n : Int)) (b2 : i.bytes * n ≤ 281474976710656) (b3 : n ≤ maxLen) (cs : List Value) (hcs : (madeCells z.cells (n * size)).toList = cs) (_ : 0 < n)
    (hK : ∀ w', Blk w' w.heap.size e cs.toArray → Below w.heap.size w w' → wpList P ops Q rest (a.put o.dst (.slice (some ⟨w.heap.size, 0, none⟩) n n)) w') :
    wpList P ops Q (o :: rest) a w := by
  subst hcs
  refine wpList_make_full w hg l c t hop w.heap.size e i z size h1 h2 h3 h4 kl kc L C n hl hc hL hC b2 b3 (Nat.le_refl _) (fun w' ho hgr => hK w' ?_ (Below.grown (Below.refl _ _) hgr (Nat.le_refl _) (fun k hk => by cases hk)))
  rcases ho.2 with ⟨hv, _⟩ | ⟨g, cap, cur, hv, hb, hg2, hc1, hc2, hc3, ht⟩
  · cases hv
  ·
   injection hv with e1 _ e3
   injection e1 with e1; injection e1 with e1
   subst e1; subst e3
   have e4 : cur.toList = (madeCells z.cells (n * size)).toList := by
    have h5 := ht
    rw [List.take_of_length_le (by rw [Array.length_toList, hc3]; exact Nat.le_refl _)] at h5
    exact h5
   show w'.heap[w.heap.size]? = _
   rw [hg2, ← e4, Array.toArray_toList]
theorem info_name : (Tryz.prog.info? 9).map (fun i => (i.zero, i.size, i.bytes)) = some (some (.string ⟨#[]⟩), 1, 16) := by kernel_rfl
theorem info_sizeN : (Tryz.prog.info? 9).map (·.size) = some 1 := by kernel_rfl
theorem sl_src {w : World} {A : Option Addr} {n c : Nat} {l : List Nat} (h : Sl w A n c l) (hp : 0 < (lv l).length) : ∃ ad, A = some ad ∧ ∀ j u, (lv l)[j]? = some u → w.cell? (ad.add j) = some u := by
 rw [lv_length, h.len] at hp
 obtain ⟨b, o, e, hc⟩ := h.cells hp
 refine ⟨_, e, fun j u hu => ?_⟩
 have hj : j < l.length := by have := (List.getElem?_eq_some_iff.1 hu).1; rwa [lv_length] at this
 rw [lv_get l j hj] at hu
 injection hu with hu
 subst hu
 rw [Addr.add_lit]
 exact hc j (by have := h.len; omega)
theorem st_src {w : World} {R : Nat → Prop} {A : Option Addr} {c : Nat} {ns : List ByteArray} (h : StrL w R A c ns) (hp : 0 < (ns.map Value.string).length) : ∃ ad, A = some ad ∧ ∀ j u, (ns.map Value.string)[j]? = some u → w.cell? (ad.add j) = some u := by
 rw [List.length_map] at hp
 obtain ⟨b, o, e, _, hc⟩ := h.2 hp
 refine ⟨_, e, fun j u hu => ?_⟩
 have hj : j < ns.length := by have := (List.getElem?_eq_some_iff.1 hu).1; simpa using this
 rw [Addr.add_lit, hc j hj, ← hu]
 simp [List.getD, hj]
theorem splice_two (z : Value) (m : Nat) (cs : List Value) (h : cs.length = m) : splice (List.replicate (m + 2) z) 0 cs = cs ++ [z, z] := by
 subst h
 simp only [splice, List.take_zero, List.nil_append, List.drop_replicate, Nat.zero_add, Nat.add_sub_cancel_left]
 rfl
theorem mark_two (cs : List Value) (m : Nat) (z v : Value) (h : cs.length = m) : (cs ++ [z, z]).toArray.setIfInBounds m v = (cs ++ [v, z]).toArray := by
 subst h
 simp
theorem put_six (l r : List Value) (p : Nat) (h : l.length = p) (a0 a1 a2 a3 a4 a5 c0 c1 c2 c3 c4 c5 : Value) :
    ((((((l ++ a0 :: a1 :: a2 :: a3 :: a4 :: a5 :: r).toArray.setIfInBounds p c0).setIfInBounds (p + 1) c1).setIfInBounds (p + 2) c2).setIfInBounds (p + 3) c3).setIfInBounds (p + 4) c4).setIfInBounds (p + 5) c5 = (l ++ c0 :: c1 :: c2 :: c3 :: c4 :: c5 :: r).toArray := by
  subst h
  simp
theorem kzs_succ (k : Nat) : kzs (k + 1) = .int .i64 0 :: .string ⟨#[]⟩ :: .slice none 0 0 :: .bool false :: .slice none 0 0 :: .slice none 0 0 :: kzs k := by
 have h1 := kzs_drop k
 have hl : 6 ≤ (kzs (k + 1)).length := by rw [kzs_length]; omega
 have h2 := List.take_append_drop 6 (kzs (k + 1))
 rw [h1] at h2
 rw [← h2]
 have h3 : (kzs (k + 1)).take 6 = [.int .i64 0, .string ⟨#[]⟩, .slice none 0 0, .bool false, .slice none 0 0, .slice none 0 0] := by
  apply List.ext_getElem?
  intro j
  rw [List.getElem?_take]
  by_cases hj : j < 6
  · rw [if_pos hj, kzs_get _ _ (by omega)]
    have : j = 0 ∨ j = 1 ∨ j = 2 ∨ j = 3 ∨ j = 4 ∨ j = 5 := by omega
    rcases this with rfl | rfl | rfl | rfl | rfl | rfl
    all_goals rfl
  · rw [if_neg hj, List.getElem?_eq_none (by simp; omega)]
 rw [h3]
 rfl
theorem below_fq {w W w' : World} {x : Nat → Prop} (h : Below w.heap.size w W) (hF : Fr W w' x) (hx : ∀ k, x k → w.heap.size ≤ k) : Below w.heap.size w w' :=
 h.trans ⟨hF.os, hF.tape, hF.output, hF.size, fun k hk => hF.block k (Nat.lt_of_lt_of_le hk h.size) (fun e => by have := hx k e; omega)⟩
theorem kid_put {w : World} {g k : Nat} {rs : List Kc} (h : Blk w g 28 (kcs rs ++ kzs (k + 1)).toArray) (c : Kc) (p : Nat) (hp : p = rs.length * 6) :
    Blk ((((((w.setCell ⟨g, p, none⟩ c.1).setCell ⟨g, p + 1, none⟩ c.2.1).setCell ⟨g, p + 2, none⟩ c.2.2.1).setCell ⟨g, p + 3, none⟩ c.2.2.2.1).setCell ⟨g, p + 4, none⟩ c.2.2.2.2.1).setCell ⟨g, p + 5, none⟩ c.2.2.2.2.2) g 28 (kcs (rs ++ [c]) ++ kzs k).toArray := by
  subst hp
  have h6 := (((((h.put (rs.length * 6) c.1).put (rs.length * 6 + 1) c.2.1).put (rs.length * 6 + 2) c.2.2.1).put (rs.length * 6 + 3) c.2.2.2.1).put (rs.length * 6 + 4) c.2.2.2.2.1).put (rs.length * 6 + 5) c.2.2.2.2.2
  rw [kzs_succ, put_six _ _ _ (kcs_length rs)] at h6
  rw [kcs_append, List.append_assoc]
  exact h6
theorem kid_room {w : World} {g k : Nat} {rs : List Kc} (h : Blk w g 28 (kcs rs ++ kzs (k + 1)).toArray) (p : Nat) (hp : rs.length * 6 = p) :
    six w g p (.int .i64 0) (.string ⟨#[]⟩) (.slice none 0 0) (.bool false) (.slice none 0 0) (.slice none 0 0) := by
  subst hp
  rw [kzs_succ] at h
  have hl := kcs_length rs
  refine ⟨?_, ?_, ?_, ?_, ?_, ?_⟩
  all_goals
   rw [h.celll, List.getElem?_append_right (by omega), hl]
   simp
theorem Lent_mk {w : World} {lo hi : Nat} {t : T} {gn gm gk : Nat} {rs : List Kc} (h1 : lo ≤ gn ∧ gn < hi) (h2 : lo ≤ gm ∧ gm < hi) (h3 : lo ≤ gk ∧ gk < hi) (hl : N.Lim t.mg) (k1 : Blk w gn 9 (nameC t.ns).toArray) (k2 : Blk w gm 69 (magC t.mg).toArray)
    (k3 : Blk w gk 28 (kcs rs ++ kcl kcm).toArray) (hk : T.Lents w lo hi t.ks rs) : T.Lent w lo hi t (lc t.k t.nm gn t.ns.length t.ng gm t.mg.length gk t.ks.length) := by
  cases t
  simp only [T.Lent]
  exact ⟨gn, gm, gk, rs, rfl, h1, h2, h3, hl, k1, k2, k3, hk⟩
set_option maxRecDepth 100000 in
set_option maxHeartbeats 16000000 in
theorem own_t : ∀ (N : Nat) (t : T) (w : World) (R : Nat → Prop) (v : Value), t.bulk ≤ N → N ≤ 1048576 → T.In w R t v →
    Calls Tryz.prog 16 #[v] w fun e w' => ∃ c, e = .returned (kv c) ∧ T.Lent w' w.heap.size w'.heap.size t c ∧ Below w.heap.size w w'
  | 0, t, _, _, _, hN, _, _ => by have := T.bulk_pos t; omega
  | N + 1, t, w, R, v, hN, hN2, h => by
   have ih := own_t N
   obtain ⟨A1, c1, A2, c2, A3, c3, rfl, hnames, hmag, hc3, hkids⟩ := h.open
   obtain ⟨n, hn⟩ : ∃ n, t.ks.length = n := ⟨_, rfl⟩
   obtain ⟨n1, hn1⟩ : ∃ n, t.ns.length = n := ⟨_, rfl⟩
   obtain ⟨n2, hn2⟩ : ∃ n, t.mg.length = n := ⟨_, rfl⟩
   obtain ⟨hl1, hl2, hl3, hl4, hlen⟩ := T.len_le hN
   have hcap1 := hnames.1
   have hcap2 := hmag.1.cap
   rw [hn] at hkids hc3 hlen ⊢
   rw [hn1] at hl2 hcap1 ⊢
   rw [hn2] at hl4 hcap2 ⊢
   have HN := Lib.hid hn
   have HN1 := Lib.hid hn1
   have HN2 := Lib.hid hn2
   have HK := Lib.hid hkids
   have HB := Lib.hid hN
   have HNM := Lib.hid hnames
   have HMG := Lib.hid hmag
   clear hn hn1 hn2 hkids hN h hnames hmag
   obtain ⟨i0, hinfo, iz0, iz1, iz2⟩ := tree_info
   obtain ⟨i1, hinfo1, jz0, jz1, jz2⟩ := info_parts info_name
   obtain ⟨i2, hinfo2, kz0, kz1, kz2⟩ := info_parts info_u32
   go_enter Tryz.func16, Tryz.ntmps16
   go_upto_region 1 with (fail)
   obtain ⟨W1, hW1, pt, hb1⟩ := made_blk w #[.int .i64 t.k, .string t.nm, .slice A1 n1 c1, .bool t.ng, .slice A2 n2 c2, .slice A3 n c3] 28
   have hsz1 : W1.heap.size = w.heap.size + 1 := by rw [hW1]; simp
   obtain ⟨Bt, hBt⟩ : ∃ b, b = w.heap.size := ⟨_, rfl⟩
   rw [← hW1, ← hBt]
   rw [← hBt] at pt hsz1
   obtain ⟨W2, hW2, pr, hb2⟩ := made_blk W1 #[.int .i64 0, .string ⟨#[]⟩, .slice none 0 0, .bool false, .slice none 0 0, .slice none 0 0] 28
   rw [← hW2]
   rw [hsz1] at pr
   have pt := pt.below hb2
   have hb1 := below_on hb1 hb2
   have hsz2 : W2.heap.size = Bt + 2 := by rw [hW2]; simp [hsz1]
   have HBt := Lib.hid hBt
   clear hW1 hW2 hb2 hBt hsz1
   obtain ⟨x0, x1, x2, x3, x4, x5⟩ := pt.six
   have HS2 := Lib.hid hsz2
   clear hsz2
   go_upto_region 2 with (fail)
   obtain ⟨W3, hW3, po3, hb3⟩ := made_blk W2 #[.int .i64 t.k, .string t.nm, .slice none 0 0, .bool false, .slice none 0 0, .slice none 0 0] 28
   rw [← hW3]
   have hoB : W2.heap.size = Bt + 2 := HS2.out
   rw [hoB] at po3 ⊢
   have pt3 := pt.below hb3
   have pr3 := pr.below hb3
   have hb4 := below_on hb1 hb3
   clear hW3 hb3 hb1 pt pr x0 x1 x2 x3 x4 x5
   obtain ⟨x0, x1, x2, x3, x4, x5⟩ := pt3.six
   obtain ⟨y0, y1, y2, y3, y4, y5⟩ := po3.six
   have f3 := po3.free 3
   go_upto_region 3 with (fail)
   obtain ⟨W4, hW4⟩ : ∃ W, W = W3.setCell ⟨Bt + 2, 3, none⟩ (.bool t.ng) := ⟨_, rfl⟩
   have po4 : Blk W4 (Bt + 2) 28 #[.int .i64 t.k, .string t.nm, .slice none 0 0, .bool t.ng, .slice none 0 0, .slice none 0 0] := by rw [hW4]; exact po3.put 3 _
   have pt4 : Blk W4 Bt 28 #[.int .i64 t.k, .string t.nm, .slice A1 n1 c1, .bool t.ng, .slice A2 n2 c2, .slice A3 n c3] := by rw [hW4]; exact pt3.far (by omega) 3 _
   have pr4 : Blk W4 (Bt + 1) 28 #[.int .i64 0, .string ⟨#[]⟩, .slice none 0 0, .bool false, .slice none 0 0, .slice none 0 0] := by rw [hW4]; exact pr3.far (by omega) 3 _
   have hb5 : Below w.heap.size w W4 := by rw [hW4]; exact hb4.setCell (by show w.heap.size ≤ Bt + 2; have := HBt.out; omega) _
   rw [← hW4]
   clear hW4 po3 pt3 pr3 hb4 x0 x1 x2 x3 x4 x5 y0 y1 y2 y3 y4 y5 f3 hoB
   obtain ⟨x0, x1, x2, x3, x4, x5⟩ := pt4.six
   have HMW := Lib.hid ((HMG.out.below hb5).1)
   go_upto_region 4 with (at_make; refine wpList_make_blk _ rfl (.tmp 22) (.tmp 22) 23 rfl 69 i2 (.int .u32 0) 1 Tryz.underlying23 hinfo2 kz0 kz1 .i64 .i64 _ _ (n2 + 2) rfl rfl (by omega) (by omega) (by rw [kz2]; omega) (by unfold maxLen; omega) (List.replicate (n2 + 2) (.int .u32 0)) (toList_made (n2 + 2)) (by omega) ?_; intro w5 hm5 hbm; have HS5 := Lib.hid (HMW.out.below hbm); obtain ⟨x0, x1, x2, x3, x4, x5⟩ := (pt4.below hbm).six)
   go_upto_region 5 with ((with_reducible refine at_copy ?_); refine wpList_copy_splice rfl (.tmp 24) (.tmp 27) _ _ rfl 69 Tryz.underlying23 info_size32 _ _ _ _ _ _ rfl rfl W4.heap.size 0 (List.replicate (n2 + 2) (.int .u32 0)) 69 hm5 (lv t.mg) (by rw [lv_length, HN2.out]; exact (Nat.min_eq_left (by omega)).symm) (fun hp => ⟨rfl, sl_src HS5.out hp⟩) (by rw [lv_length, HN2.out, List.length_replicate]; omega) (lv_oneCell _) W4.heap.size W4 hbm (Nat.le_refl _) ?_; intro w6 HM6 hb6; obtain ⟨x0, x1, x2, x3, x4, x5⟩ := (pt4.below hb6).six; obtain ⟨y0, y1, y2, y3, y4, y5⟩ := (po4.below hb6).six)
   obtain ⟨gm, hgm⟩ : ∃ x, W4.heap.size = x := ⟨_, rfl⟩
   rw [hgm] at HM6 ⊢
   have hml : (lv t.mg).length = n2 := by rw [lv_length, HN2.out]
   have pm6 : Blk w6 gm 69 (lv t.mg ++ [Value.int .u32 0, Value.int .u32 0]).toArray := by have h := HM6.out; rw [splice_two _ _ _ hml] at h; exact h
   have hgo : Bt + 2 < gm := by rw [← hgm]; exact po4.lt
   have em : w6.cell? ⟨gm, n2, none⟩ = some (.int .u32 0) := by rw [pm6.celll, List.getElem?_append_right (by omega), hml, Nat.sub_self]; rfl
   have fm := pm6.free n2
   have pt6 := pt4.below hb6
   have pr6 := pr4.below hb6
   have po6 := po4.below hb6
   have hb8 := below_on hb5 hb6
   have f4 := po6.free 4
   have hi0 : (0 : Int) ≤ n2 := by omega
   have hi1 : (n2 : Int) < n2 + 2 := by omega
   clear pt4 pr4 po4 hb5 hgm hm5 hbm HS5 HM6 hb6 HMW
   go_upto_region 7 with (fail)
   obtain ⟨W7, hW7⟩ : ∃ W, W = (w6.setCell ⟨gm, n2, none⟩ (.int .u32 77)).setCell ⟨Bt + 2, 4, none⟩ (.slice (some ⟨gm, 0, none⟩) n2 (n2 + 2)) := ⟨_, rfl⟩
   have po7 : Blk W7 (Bt + 2) 28 #[.int .i64 t.k, .string t.nm, .slice none 0 0, .bool t.ng, .slice (some ⟨gm, 0, none⟩) n2 (n2 + 2), .slice none 0 0] := by rw [hW7]; exact (po6.far (by omega) n2 _).put 4 _
   have pt7 : Blk W7 Bt 28 #[.int .i64 t.k, .string t.nm, .slice A1 n1 c1, .bool t.ng, .slice A2 n2 c2, .slice A3 n c3] := by rw [hW7]; exact (pt6.far (by omega) n2 _).far (by omega) 4 _
   have pr7 : Blk W7 (Bt + 1) 28 #[.int .i64 0, .string ⟨#[]⟩, .slice none 0 0, .bool false, .slice none 0 0, .slice none 0 0] := by rw [hW7]; exact (pr6.far (by omega) n2 _).far (by omega) 4 _
   have pm7 : Blk W7 gm 69 (magC t.mg).toArray := by
    have h := (pm6.put n2 (.int .u32 77)).far (b' := Bt + 2) (by omega) 4 (.slice (some ⟨gm, 0, none⟩) n2 (n2 + 2))
    rw [mark_two _ _ _ _ hml] at h
    rw [hW7]
    exact h
   have hb9 : Below w.heap.size w W7 := by rw [hW7]; exact (hb8.setCell (by show w.heap.size ≤ gm; have := HBt.out; omega) _).setCell (by show w.heap.size ≤ Bt + 2; have := HBt.out; omega) _
   rw [← hW7]
   clear hW7 po6 pt6 pr6 pm6 hb8 em fm f4 hi0 hi1 hml x0 x1 x2 x3 x4 x5 y0 y1 y2 y3 y4 y5
   obtain ⟨x0, x1, x2, x3, x4, x5⟩ := pt7.six
   have HNW := Lib.hid (HNM.out.below hb9)
   go_upto_region 8 with (at_make; refine wpList_make_blk _ rfl (.tmp 46) (.tmp 46) 22 rfl 9 i1 (.string ⟨#[]⟩) 1 Tryz.underlying22 hinfo1 jz0 jz1 .i64 .i64 _ _ (n1 + 2) rfl rfl (by omega) (by omega) (by rw [jz2]; omega) (by unfold maxLen; omega) (List.replicate (n1 + 2) (.string ⟨#[]⟩)) (by rw [Nat.mul_one]; exact toList_madeCells_one _ _) (by omega) ?_; intro w8 hm8 hbm; have HS8 := Lib.hid (HNW.out.below hbm); obtain ⟨x0, x1, x2, x3, x4, x5⟩ := (pt7.below hbm).six)
   go_upto_region 9 with ((with_reducible refine at_copy ?_); refine wpList_copy_splice rfl (.tmp 48) (.tmp 50) _ _ rfl 9 Tryz.underlying22 info_sizeN _ _ _ _ _ _ rfl rfl W7.heap.size 0 (List.replicate (n1 + 2) (.string ⟨#[]⟩)) 9 hm8 (t.ns.map Value.string) (by rw [List.length_map, HN1.out]; exact (Nat.min_eq_left (by omega)).symm) (fun hp => ⟨rfl, st_src HS8.out hp⟩) (by rw [List.length_map, HN1.out, List.length_replicate]; omega) (fun u hu => by obtain ⟨s, _, rfl⟩ := List.mem_map.1 hu; rfl) W7.heap.size W7 hbm (Nat.le_refl _) ?_; intro w9 HM9 hb10; obtain ⟨x0, x1, x2, x3, x4, x5⟩ := (pt7.below hb10).six; obtain ⟨y0, y1, y2, y3, y4, y5⟩ := (po7.below hb10).six)
   obtain ⟨gn, hgn⟩ : ∃ x, W7.heap.size = x := ⟨_, rfl⟩
   rw [hgn] at HM9 ⊢
   have hnl : (t.ns.map Value.string).length = n1 := by rw [List.length_map, HN1.out]
   have pn9 : Blk w9 gn 9 (t.ns.map Value.string ++ [Value.string ⟨#[]⟩, Value.string ⟨#[]⟩]).toArray := by have h := HM9.out; rw [splice_two _ _ _ hnl] at h; exact h
   have hmn : gm < gn := by rw [← hgn]; exact pm7.lt
   have en : w9.cell? ⟨gn, n1, none⟩ = some (.string ⟨#[]⟩) := by rw [pn9.celll, List.getElem?_append_right (by omega), hnl, Nat.sub_self]; rfl
   have fn := pn9.free n1
   have pt9 := pt7.below hb10
   have pr9 := pr7.below hb10
   have po9 := po7.below hb10
   have pm9 := pm7.below hb10
   have hb11 := below_on hb9 hb10
   have f2 := po9.free 2
   have hi0 : (0 : Int) ≤ n1 := by omega
   have hi1 : (n1 : Int) < n1 + 2 := by omega
   clear pt7 pr7 po7 pm7 hb9 hgn hm8 hbm HS8 HM9 hb10 HNW
   go_upto_region 11 with (fail)
   obtain ⟨W11, hW11⟩ : ∃ W, W = (w9.setCell ⟨gn, n1, none⟩ (.string nmk)).setCell ⟨Bt + 2, 2, none⟩ (.slice (some ⟨gn, 0, none⟩) n1 (n1 + 2)) := ⟨_, rfl⟩
   have po11 : Blk W11 (Bt + 2) 28 #[.int .i64 t.k, .string t.nm, .slice (some ⟨gn, 0, none⟩) n1 (n1 + 2), .bool t.ng, .slice (some ⟨gm, 0, none⟩) n2 (n2 + 2), .slice none 0 0] := by rw [hW11]; exact (po9.far (by omega) n1 _).put 2 _
   have pt11 : Blk W11 Bt 28 #[.int .i64 t.k, .string t.nm, .slice A1 n1 c1, .bool t.ng, .slice A2 n2 c2, .slice A3 n c3] := by rw [hW11]; exact (pt9.far (by omega) n1 _).far (by omega) 2 _
   have pr11 : Blk W11 (Bt + 1) 28 #[.int .i64 0, .string ⟨#[]⟩, .slice none 0 0, .bool false, .slice none 0 0, .slice none 0 0] := by rw [hW11]; exact (pr9.far (by omega) n1 _).far (by omega) 2 _
   have pm11 : Blk W11 gm 69 (magC t.mg).toArray := by rw [hW11]; exact (pm9.far (by omega) n1 _).far (by omega) 2 _
   have pn11 : Blk W11 gn 9 (nameC t.ns).toArray := by
    have h := (pn9.put n1 (.string nmk)).far (b' := Bt + 2) (by omega) 2 (.slice (some ⟨gn, 0, none⟩) n1 (n1 + 2))
    rw [mark_two _ _ _ _ hnl] at h
    rw [hW11]
    exact h
   have hb12 : Below w.heap.size w W11 := by rw [hW11]; exact (hb11.setCell (by show w.heap.size ≤ gn; have := HBt.out; omega) _).setCell (by show w.heap.size ≤ Bt + 2; have := HBt.out; omega) _
   have hW11' : W11 = (w9.setCell ⟨gn, n1, none⟩ (.string ⟨#[109, 97, 114, 107]⟩)).setCell ⟨Bt + 2, 2, none⟩ (.slice (some ⟨gn, 0, none⟩) n1 (n1 + 2)) := hW11
   rw [← hW11']
   clear hW11 hW11' po9 pt9 pr9 pm9 pn9 hb11 en fn f2 hi0 hi1 hnl x0 x1 x2 x3 x4 x5 y0 y1 y2 y3 y4 y5
   obtain ⟨x0, x1, x2, x3, x4, x5⟩ := pt11.six
   go_upto_region 12 with (at_make; refine wpList_make_blk _ rfl (.tmp 66) (.tmp 66) 26 rfl 28 i0 (.agg #[.int .i64 0, .string ⟨#[]⟩, .slice none 0 0, .bool false, .slice none 0 0, .slice none 0 0]) 6 Tryz.underlying26 hinfo iz0 iz1 .i64 .i64 _ _ (n + 1) rfl rfl (by omega) (by omega) (by rw [iz2]; omega) (by unfold maxLen; omega) (kzs (n + 1)) rfl (by omega) ?_; intro w13 hk13 hb13; obtain ⟨x0, x1, x2, x3, x4, x5⟩ := (pt11.below hb13).six)
   obtain ⟨kg, hgk⟩ : ∃ x, W11.heap.size = x := ⟨_, rfl⟩
   rw [hgk] at hk13 ⊢
   have hnk : gn < kg := by rw [← hgk]; exact pn11.lt
   have pt13 := pt11.below hb13
   have pr13 := pr11.below hb13
   have po13 := po11.below hb13
   have pm13 := pm11.below hb13
   have pn13 := pn11.below hb13
   have hb14 := below_on hb12 hb13
   have hk0 : Blk w13 kg 28 (kcs [] ++ kzs (n + 1)).toArray := hk13
   have hgl := hk0.lt
   clear pt11 pr11 po11 pm11 pn11 hb12 hb13 hgk hk13
   go_wp2_with fail
   go_loopg [7] (n + 1) (fun gq v7 wr => ∃ (i : Nat) (rs : List Kc), gq + i = n + 1 ∧ i ≤ n ∧ v7 = .int .i64 (i : Nat) ∧ rs.length = i ∧ Blk wr kg 28 (kcs rs ++ kzs (n + 1 - i)).toArray ∧ T.Lents wr w13.heap.size wr.heap.size (t.ks.take i) rs ∧ Fr w13 wr (fun b => b = kg))
   case atStart => exact ⟨0, [], by omega, Nat.zero_le _, rfl, rfl, hk0, by simp only [List.take_zero, T.Lents], Fr.refl _ _⟩
   case round =>
    clear x0 x1 x2 x3 x4 x5
    obtain ⟨i, rs, hi, hin, rfl, hrl, hK, hL, hF⟩ := hrel
    have ptk := hF.blk pt13 (by omega)
    obtain ⟨x0, x1, x2, x3, x4, x5⟩ := ptk.six
    have hbr : Below w.heap.size w wr := below_fq hb14 hF (fun k e => by have := HBt.out; omega)
    by_cases hlt : i < n
    ·
     have hi3 : decide (i < n) = true := decide_eq_true hlt
     have hsn := take_snoc t.ks t0 i (by rw [HN.out]; exact hlt)
     obtain ⟨b, o, rfl, hk⟩ := HK.out (by omega)
     have hkd := hk i hlt
     obtain ⟨u, hu⟩ : ∃ u, t.ks.getD i t0 = u := ⟨_, rfl⟩
     rw [hu] at hkd hsn
     have hub : u.bulk ≤ N := by rw [← hu]; exact T.kid_bulk HB.out (by rw [HN.out]; exact hlt)
     have HSN := Lib.hid hsn
     have HRL := Lib.hid hrl
     clear hk hu hsn hrl
     obtain ⟨B1, e1, B2, e2, B3, e3, h6, hkin⟩ := hkd.below hbr
     have HI := Lib.hid hkin
     clear hkin hkd
     obtain ⟨z0, z1, z2, z3, z4, z5⟩ := h6
     have hi0 : (0 : Int) ≤ i := by omega
     have hi1 : (i : Int) < n := by omega
     have hi4 : (i : Int) < n + 1 := by omega
     have HKK : Hid (Blk wr kg 28 (kcs rs ++ kzs ((n - i) + 1)).toArray) := Lib.hid (by rw [show n + 1 - i = n - i + 1 by omega] at hK; exact hK)
     clear hK
     go_upto_region 14 with (go_at_call 16; refine (ih u _ R _ hub (by omega) HI.out).mono ?_; rintro e w2 ⟨c, rfl, hLt, hb2⟩; obtain ⟨gn', gm', gk', rs', hcc, _⟩ := hLt.open; subst hcc; have HKL := Lib.hid (HKK.out.below hb2); obtain ⟨q0, q1, q2, q3, q4, q5⟩ := kid_room HKL.out (i * 6) (by rw [HRL.out]); have f0 := HKL.out.free (i * 6); have f1 := HKL.out.free (i * 6 + 1); have f2 := HKL.out.free (i * 6 + 2); have f3 := HKL.out.free (i * 6 + 3); have f4 := HKL.out.free (i * 6 + 4); have f5 := HKL.out.free (i * 6 + 5))
     obtain ⟨W5, hW5⟩ : ∃ W, W = ((((((w2.setCell ⟨kg, i * 6, none⟩ (.int .i64 u.k)).setCell ⟨kg, i * 6 + 1, none⟩ (.string u.nm)).setCell ⟨kg, i * 6 + 2, none⟩ (.slice (some ⟨gn', 0, none⟩) u.ns.length (u.ns.length + 2))).setCell ⟨kg, i * 6 + 3, none⟩ (.bool u.ng)).setCell ⟨kg, i * 6 + 4, none⟩ (.slice (some ⟨gm', 0, none⟩) u.mg.length (u.mg.length + 2))).setCell ⟨kg, i * 6 + 5, none⟩ (.slice (some ⟨gk', 0, none⟩) u.ks.length (u.ks.length + 1))) := ⟨_, rfl⟩
     rw [← hW5]
     have HP5 : Hid (Blk W5 kg 28 (kcs (rs ++ [lc u.k u.nm gn' u.ns.length u.ng gm' u.mg.length gk' u.ks.length]) ++ kzs (n - i)).toArray) := Lib.hid (by rw [hW5]; exact kid_put HKL.out (lc u.k u.nm gn' u.ns.length u.ng gm' u.mg.length gk' u.ks.length) (i * 6) (by rw [HRL.out]))
     have hsz5 : W5.heap.size = w2.heap.size := by rw [hW5]; simp only [World.size_setCell]
     have hfar5 : ∀ b, b ≠ kg → W5.heap[b]? = w2.heap[b]? := fun b hb => by rw [hW5]; exact ((((((Below.heap_setCell _ ⟨kg, i * 6 + 5, none⟩ _ _ hb).trans (Below.heap_setCell _ ⟨kg, i * 6 + 4, none⟩ _ _ hb)).trans (Below.heap_setCell _ ⟨kg, i * 6 + 3, none⟩ _ _ hb)).trans (Below.heap_setCell _ ⟨kg, i * 6 + 2, none⟩ _ _ hb)).trans (Below.heap_setCell _ ⟨kg, i * 6 + 1, none⟩ _ _ hb)).trans (Below.heap_setCell _ ⟨kg, i * 6, none⟩ _ _ hb))
     have HF5 : Hid (Fr w13 W5 (fun b => b = kg)) := Lib.hid (by rw [hW5]; exact ((((((hF.below hb2).set (.inl rfl) _ _).set (.inl rfl) _ _).set (.inl rfl) _ _).set (.inl rfl) _ _).set (.inl rfl) _ _).set (.inl rfl) _ _)
     have hsz2 := hb2.size
     have hszr := hF.size
     have HL5 : Hid (T.Lents W5 w13.heap.size W5.heap.size (t.ks.take (i + 1)) (rs ++ [lc u.k u.nm gn' u.ns.length u.ng gm' u.mg.length gk' u.ks.length])) := Lib.hid (by
      rw [HSN.out]
      exact T.Lents.snoc (T.Lent.keep hszr (by omega) (fun b h1 h2 => hfar5 b (by omega)) _ _ hLt) _ _ (T.Lents.keep (Nat.le_refl _) (by omega) (fun b h1 h2 => (hfar5 b (by omega)).trans (hb2.block b h2)) _ _ hL))
     clear hW5 hfar5 hsz5 hLt hb2 q0 q1 q2 q3 q4 q5 f0 f1 f2 f3 f4 f5 x0 x1 x2 x3 x4 x5 z0 z1 z2 z3 z4 z5 hL hF HKL
     go_wp2_with fail
     go_roundg (n - i)
     case measure => omega
     case rel => exact ⟨i + 1, _, by omega, by omega, by go_num, by simp [HRL.out], by rw [show n + 1 - (i + 1) = n - i by omega]; exact HP5.out, HL5.out, HF5.out⟩
    ·
     have hi3 : decide (i < n) = false := decide_eq_false hlt
     obtain rfl : i = n := by omega
     have htk : t.ks.take i = t.ks := by rw [← HN.out, List.take_length]
     rw [htk] at hL
     rw [show i + 1 - i = 0 + 1 by omega] at hK
     have HRL := Lib.hid hrl
     have HKK := Lib.hid hK
     have HL := Lib.hid hL
     clear hrl hK hL htk
     obtain ⟨q0, q1, q2, q3, q4, q5⟩ := kid_room HKK.out (i * 6) (by rw [HRL.out])
     have f0 := HKK.out.free (i * 6)
     have f1 := HKK.out.free (i * 6 + 1)
     have f2 := HKK.out.free (i * 6 + 2)
     have f3 := HKK.out.free (i * 6 + 3)
     have f4 := HKK.out.free (i * 6 + 4)
     have f5 := HKK.out.free (i * 6 + 5)
     have hi0 : (0 : Int) ≤ i := by omega
     have hi1 : (i : Int) < i + 1 := by omega
     go_upto_region 17 with (fail)
     obtain ⟨W5, hW5⟩ : ∃ W, W = ((((((wr.setCell ⟨kg, i * 6, none⟩ (.int .i64 77)).setCell ⟨kg, i * 6 + 1, none⟩ (.string ⟨#[]⟩)).setCell ⟨kg, i * 6 + 2, none⟩ (.slice none 0 0)).setCell ⟨kg, i * 6 + 3, none⟩ (.bool false)).setCell ⟨kg, i * 6 + 4, none⟩ (.slice none 0 0)).setCell ⟨kg, i * 6 + 5, none⟩ (.slice none 0 0)) := ⟨_, rfl⟩
     have hW5' : W5 = ((((((wr.setCell ⟨kg, i * 6, none⟩ (.int .i64 77)).setCell ⟨kg, i * 6 + 1, none⟩ (.string ⟨#[]⟩)).setCell ⟨kg, i * 6 + 2, none⟩ (.slice none 0 0)).setCell ⟨kg, i * 6 + 3, none⟩ (.bool false)).setCell ⟨kg, i * 6 + 4, none⟩ (.slice none 0 0)).setCell ⟨kg, i * 6 + 5, none⟩ (.slice none 0 0)) := hW5
     rw [← hW5']
     have hszr := hF.size
     have hsz5 : W5.heap.size = wr.heap.size := by rw [hW5]; simp only [World.size_setCell]
     have hfar5 : ∀ b, b ≠ kg → W5.heap[b]? = wr.heap[b]? := fun b hb => by rw [hW5]; exact ((((((Below.heap_setCell _ ⟨kg, i * 6 + 5, none⟩ _ _ hb).trans (Below.heap_setCell _ ⟨kg, i * 6 + 4, none⟩ _ _ hb)).trans (Below.heap_setCell _ ⟨kg, i * 6 + 3, none⟩ _ _ hb)).trans (Below.heap_setCell _ ⟨kg, i * 6 + 2, none⟩ _ _ hb)).trans (Below.heap_setCell _ ⟨kg, i * 6 + 1, none⟩ _ _ hb)).trans (Below.heap_setCell _ ⟨kg, i * 6, none⟩ _ _ hb))
     have pk5 : Blk W5 kg 28 (kcs rs ++ kcl kcm).toArray := by
      have h := kid_put HKK.out kcm (i * 6) (by rw [HRL.out])
      rw [kcs_append, List.append_assoc, show kcs [kcm] ++ kzs 0 = kcl kcm from by rw [show kzs 0 = [] from List.eq_nil_of_length_eq_zero (by rw [kzs_length])]; rfl] at h
      rw [hW5]
      exact h
     have hF5 : Fr w13 W5 (fun b => b = kg) := by rw [hW5]; exact (((((hF.set (.inl rfl) _ _).set (.inl rfl) _ _).set (.inl rfl) _ _).set (.inl rfl) _ _).set (.inl rfl) _ _).set (.inl rfl) _ _
     have hL5 : T.Lents W5 w13.heap.size W5.heap.size t.ks rs := T.Lents.keep (Nat.le_refl _) (by omega) (fun b h1 h2 => hfar5 b (by omega)) _ _ HL.out
     clear hW5 hW5' hfar5 hF HKK HL q0 q1 q2 q3 q4 q5 f0 f1 f2 f3 f4 f5 x0 x1 x2 x3 x4 x5
     have pt5 := hF5.blk pt13 (by omega)
     have pr5 := hF5.blk pr13 (by omega)
     have po5 := hF5.blk po13 (by omega)
     have pm5 := hF5.blk pm13 (by omega)
     have pn5 := hF5.blk pn13 (by omega)
     have hb5 : Below w.heap.size w W5 := below_fq hb14 hF5 (fun k e => by have := HBt.out; omega)
     have hlt5 := pk5.lt
     clear pt13 pr13 po13 pm13 pn13 hb14 hF5
     obtain ⟨x0, x1, x2, x3, x4, x5⟩ := pt5.six
     have fo := po5.free 5
     have yo := po5.six.2.2.2.2.2
     go_upto_region 18 with (fail)
     obtain ⟨W6, hW6⟩ : ∃ W, W = W5.setCell ⟨Bt + 2, 5, none⟩ (.slice (some ⟨kg, 0, none⟩) i (i + 1)) := ⟨_, rfl⟩
     rw [← hW6]
     have po6 : Blk W6 (Bt + 2) 28 #[.int .i64 t.k, .string t.nm, .slice (some ⟨gn, 0, none⟩) n1 (n1 + 2), .bool t.ng, .slice (some ⟨gm, 0, none⟩) n2 (n2 + 2), .slice (some ⟨kg, 0, none⟩) i (i + 1)] := by rw [hW6]; exact po5.put 5 _
     have pr6 : Blk W6 (Bt + 1) 28 #[.int .i64 0, .string ⟨#[]⟩, .slice none 0 0, .bool false, .slice none 0 0, .slice none 0 0] := by rw [hW6]; exact pr5.far (by omega) 5 _
     have hfar6 : ∀ b, b ≠ Bt + 2 → W6.heap[b]? = W5.heap[b]? := fun b hb => by rw [hW6]; exact Below.heap_setCell _ _ _ _ hb
     have hsz6 : W6.heap.size = W5.heap.size := by rw [hW6]; simp only [World.size_setCell]
     have hb6 : Below w.heap.size w W6 := by rw [hW6]; exact hb5.setCell (by show w.heap.size ≤ Bt + 2; have := HBt.out; omega) _
     clear hW6 x0 x1 x2 x3 x4 x5 fo yo
     obtain ⟨y0, y1, y2, y3, y4, y5⟩ := po6.six
     obtain ⟨z0, z1, z2, z3, z4, z5⟩ := pr6.six
     have g0 := pr6.free 0
     have g1 := pr6.free 1
     have g2 := pr6.free 2
     have g3 := pr6.free 3
     have g4 := pr6.free 4
     have g5 := pr6.free 5
     go_wp2_with fail
     refine bodyPost_ret (results_cell_row rfl _ _ _ _ _ _ _ rfl ((((((pr6.put 0 _).put 1 _).put 2 _).put 3 _).put 4 _).put 5 _) Tryz.underlying28 rfl sizeTree) rfl ?_
     refine ⟨lc t.k t.nm gn n1 t.ng gm n2 kg i, rfl, ?_, ?_⟩
     · have hfar8 : ∀ b, b ≠ Bt + 1 → b ≠ Bt + 2 → ((((((W6.setCell ⟨Bt + 1, 0, none⟩ (.int .i64 t.k)).setCell ⟨Bt + 1, 1, none⟩ (.string t.nm)).setCell ⟨Bt + 1, 2, none⟩ (.slice (some ⟨gn, 0, none⟩) n1 (n1 + 2))).setCell ⟨Bt + 1, 3, none⟩ (.bool t.ng)).setCell ⟨Bt + 1, 4, none⟩ (.slice (some ⟨gm, 0, none⟩) n2 (n2 + 2))).setCell ⟨Bt + 1, 5, none⟩ (.slice (some ⟨kg, 0, none⟩) i (i + 1))).heap[b]? = W5.heap[b]? := fun b h2 h3 =>
        (((((Below.heap_setCell _ ⟨Bt + 1, 5, none⟩ _ _ h2).trans (Below.heap_setCell _ ⟨Bt + 1, 4, none⟩ _ _ h2)).trans (Below.heap_setCell _ ⟨Bt + 1, 3, none⟩ _ _ h2)).trans (Below.heap_setCell _ ⟨Bt + 1, 2, none⟩ _ _ h2)).trans (Below.heap_setCell _ ⟨Bt + 1, 1, none⟩ _ _ h2)).trans ((Below.heap_setCell _ ⟨Bt + 1, 0, none⟩ _ _ h2).trans (hfar6 b h3))
       have hlo := HBt.out
       have hm := Lent_mk (w := ((((((W6.setCell ⟨Bt + 1, 0, none⟩ (.int .i64 t.k)).setCell ⟨Bt + 1, 1, none⟩ (.string t.nm)).setCell ⟨Bt + 1, 2, none⟩ (.slice (some ⟨gn, 0, none⟩) n1 (n1 + 2))).setCell ⟨Bt + 1, 3, none⟩ (.bool t.ng)).setCell ⟨Bt + 1, 4, none⟩ (.slice (some ⟨gm, 0, none⟩) n2 (n2 + 2))).setCell ⟨Bt + 1, 5, none⟩ (.slice (some ⟨kg, 0, none⟩) i (i + 1)))) (lo := w.heap.size) (hi := ((((((W6.setCell ⟨Bt + 1, 0, none⟩ (.int .i64 t.k)).setCell ⟨Bt + 1, 1, none⟩ (.string t.nm)).setCell ⟨Bt + 1, 2, none⟩ (.slice (some ⟨gn, 0, none⟩) n1 (n1 + 2))).setCell ⟨Bt + 1, 3, none⟩ (.bool t.ng)).setCell ⟨Bt + 1, 4, none⟩ (.slice (some ⟨gm, 0, none⟩) n2 (n2 + 2))).setCell ⟨Bt + 1, 5, none⟩ (.slice (some ⟨kg, 0, none⟩) i (i + 1))).heap.size) (t := t) (gn := gn) (gm := gm) (gk := kg) (rs := rs) ⟨by omega, by simp only [World.size_setCell]; omega⟩ ⟨by omega, by simp only [World.size_setCell]; omega⟩ ⟨by omega, by simp only [World.size_setCell]; omega⟩ HMG.out.1.lim ((hfar8 gn (by omega) (by omega)).trans pn5) ((hfar8 gm (by omega) (by omega)).trans pm5) ((hfar8 kg (by omega) (by omega)).trans pk5)
        (T.Lents.keep (by omega) (by simp only [World.size_setCell]; omega) (fun b h1 h2 => hfar8 b (by omega) (by omega)) _ _ hL5)
       rw [HN1.out, HN2.out, HN.out] at hm
       exact hm
     · have hB : w.heap.size ≤ Bt + 1 := by have := HBt.out; omega
       exact (((((hb6.setCell hB _).setCell hB _).setCell hB _).setCell hB _).setCell hB _).setCell hB _
end
section
open Go.RowKit
theorem exact_of (t : T) {N : Nat} (hN : t.bulk ≤ N + 1) (w : World) (R R' : Nat → Prop) (gn gm : Nat) (A1 : Option Addr) (c1 : Nat) (A2 : Option Addr) (c2 : Nat)
    (h1 : StrL w R (some ⟨gn, 0, none⟩) (t.ns.length + 2) t.ns) (h2 : SlR w R (some ⟨gm, 0, none⟩) (t.mg.length + 2) t.mg) (h3 : StrL w R' A1 c1 t.ns) (h4 : SlR w R' A2 c2 t.mg) (w' : World) (hb : Below w.heap.size w w') (hN2 : N + 1 ≤ 1048576) :
    Calls Tryz.prog 13 #[.agg #[.int .i64 0, .string t.nm, .slice (some ⟨gn, 0, none⟩) t.ns.length (t.ns.length + 2), .bool t.ng, .slice (some ⟨gm, 0, none⟩) t.mg.length (t.mg.length + 2), .slice none 0 0], .agg #[.int .i64 0, .string t.nm, .slice A1 t.ns.length c1, .bool t.ng, .slice A2 t.mg.length c2, .slice none 0 0]] w' fun e w'' => e = .returned (.bool true) ∧ Below w'.heap.size w' w'' := by
  have hu : (T.node 0 t.nm t.ns t.ng t.mg []).bulk ≤ N + 1 := by
   cases t
   simp only [T.bulk, T.bulks, T.nm, T.ns, T.mg] at hN ⊢
   omega
  refine exact_t (N + 1) (.node 0 t.nm t.ns t.ng t.mg []) (.node 0 t.nm t.ns t.ng t.mg []) w' R R' _ _ hu hu hN2 rfl ?_ ?_
  · refine T.In.below ?_ hb
    rw [T.In]
    exact ⟨_, _, _, _, _, _, rfl, h1, h2, Nat.le_refl _, fun h => absurd h (by simp)⟩
  · refine T.In.below ?_ hb
    rw [T.In]
    exact ⟨_, _, _, _, _, _, rfl, h3, h4, Nat.le_refl _, fun h => absurd h (by simp)⟩
set_option maxRecDepth 100000 in
set_option maxHeartbeats 16000000 in
theorem unspoilt_t : ∀ (N : Nat) (t : T) (w : World) (lo hi : Nat) (c : Kc) (R : Nat → Prop) (v : Value), t.bulk ≤ N → N ≤ 1048576 → T.Lent w lo hi t c → hi ≤ w.heap.size → T.In w R t v →
    Calls Tryz.prog 21 #[kv c, v] w fun e w' => e = .returned (.bool true) ∧ Below w.heap.size w w'
  | 0, t, _, _, _, _, _, _, hN, _, _, _, _ => by have := T.bulk_pos t; omega
  | N + 1, t, w, lo, hi, c, R, v, hN, hN2, hL, hh, h => by
   have ih := unspoilt_t N
   have hex := exact_of t hN
   obtain ⟨gn, gm, kg, rs, rfl, hgn, hgm, hkg, hlim, hrl, bn, bm, bk, hls⟩ := hL.open
   obtain ⟨A1, c1, A2, c2, A3, c3, rfl, hnames, hmag, hc3, hkids⟩ := h.open
   obtain ⟨hl1, hl2, hl3, hl4, hlen⟩ := T.len_le hN
   have hE := hex w (fun _ => True) R gn gm A1 c1 A2 c2 ⟨by omega, fun _ => ⟨gn, 0, rfl, trivial, fun i hi => by rw [Nat.zero_add, bn.celll, nameC_get hi]⟩⟩ ⟨⟨rfl, by omega, hlim, fun _ => ⟨gm, 0, rfl, fun i hi => by rw [Nat.zero_add, bm.celll, magC_get hi]⟩⟩, fun _ _ _ => trivial⟩ hnames hmag
   have emag := (bm.celll t.mg.length).trans (magC_mark t.mg)
   have enam := (bn.celll t.ns.length).trans (nameC_mark t.ns)
   have ekid := (bk.celll (rs.length * 6)).trans (kidC_mark rs)
   have HKC := Lib.hid (fun (i : Nat) (hi : i < rs.length) (j : Nat) (hj : j < 6) => (bk.celll (i * 6 + j)).trans (kidC_get hi hj))
   have hcap1 := hnames.1
   have hcap2 := hmag.1.cap
   rw [hrl] at ekid HKC
   obtain ⟨n, hn⟩ : ∃ n, t.ks.length = n := ⟨_, rfl⟩
   obtain ⟨n1, hn1⟩ : ∃ n, t.ns.length = n := ⟨_, rfl⟩
   obtain ⟨n2, hn2⟩ : ∃ n, t.mg.length = n := ⟨_, rfl⟩
   rw [hn] at hkids hc3 hlen ekid HKC hrl ⊢
   rw [hn1] at hl2 hcap1 enam hE ⊢
   rw [hn2] at hl4 hcap2 emag hE ⊢
   have HN := Lib.hid hn
   have HB := Lib.hid hN
   have HK := Lib.hid hkids
   have HLS := Lib.hid hls
   have HE := Lib.hid hE
   have HRL := Lib.hid hrl
   obtain ⟨kk, hkk⟩ : ∃ x, t.k = x := ⟨_, rfl⟩
   obtain ⟨nm, hnm⟩ : ∃ x, t.nm = x := ⟨_, rfl⟩
   obtain ⟨ng, hng⟩ : ∃ x, t.ng = x := ⟨_, rfl⟩
   rw [hkk, hnm, hng]
   rw [hnm, hng] at HE
   have hne1 : ((77 : Int) != 77) = false := by decide
   clear hn hn1 hn2 hkids hN h hL hnames hmag hls hex hE hrl bn bm bk hlim hkk hnm hng hl1 hl3
   go_enter Tryz.func21, Tryz.ntmps21
   go_upto_region 1 with (fail)
   obtain ⟨W0, hW0, pt0, hb0⟩ := made_blk w #[.int .i64 kk, .string nm, .slice (some ⟨gn, 0, none⟩) n1 (n1 + 2), .bool ng, .slice (some ⟨gm, 0, none⟩) n2 (n2 + 2), .slice (some ⟨kg, 0, none⟩) n (n + 1)] 28
   have hsz0 : W0.heap.size = w.heap.size + 1 := by rw [hW0]; simp
   obtain ⟨Bt, hBt⟩ : ∃ b, b = w.heap.size := ⟨_, rfl⟩
   rw [← hW0, ← hBt]
   rw [← hBt] at pt0 hsz0
   obtain ⟨W1, hW1, pu, hb1⟩ := made_blk W0 #[.int .i64 kk, .string nm, .slice A1 n1 c1, .bool ng, .slice A2 n2 c2, .slice A3 n c3] 28
   rw [← hW1]
   rw [hsz0] at pu
   have pt := pt0.below hb1
   have hb1 := below_on hb0 hb1
   have HBT := Lib.hid hBt
   clear hW0 hW1 hb0 hBt hsz0 pt0
   obtain ⟨x0, x1, x2, x3, x4, x5⟩ := pt.six
   obtain ⟨y0, y1, y2, y3, y4, y5⟩ := pu.six
   have e1 := keep_cell emag hb1
   have e2 : W1.cell? ⟨gn, n1, none⟩ = some (.string ⟨#[109, 97, 114, 107]⟩) := keep_cell enam hb1
   have e3 := keep_cell ekid hb1
   clear emag enam ekid
   have hi0 : (0 : Int) ≤ n2 := by omega
   have hi1 : (n2 : Int) < n2 + 2 := by omega
   have hi2 : (0 : Int) ≤ n1 := by omega
   have hi3 : (n1 : Int) < n1 + 2 := by omega
   have hi4 : (0 : Int) ≤ n := by omega
   have hi5 : (n : Int) < n + 1 := by omega
   have d1 : decide ((n2 : Int) + 2 ≤ (n2 : Int)) = false := decide_eq_false (by omega)
   have d2 : decide ((n1 : Int) + 2 ≤ (n1 : Int)) = false := decide_eq_false (by omega)
   have d3 : decide ((n : Int) + 1 ≤ (n : Int)) = false := decide_eq_false (by omega)
   go_upto_region 8 with (fail)
   clear d1 d2 d3
   go_wp2_with fail
   go_loopg [8] (n + 1) (fun gq v8 wr => ∃ j : Nat, gq + j = n + 1 ∧ j ≤ n ∧ v8 = .int .i64 (j : Nat) ∧ Below W1.heap.size W1 wr)
   case atStart => exact ⟨0, by omega, Nat.zero_le _, rfl, Below.refl _ _⟩
   case round =>
    clear x0 x1 x2 x3 x4 x5 y0 y1 y2 y3 y4 y5 e1 e2 e3 hi0 hi1 hi2 hi3 hi4 hi5
    obtain ⟨j, hj, hjn, rfl, hS⟩ := hrel
    obtain ⟨x0, x1, x2, x3, x4, x5⟩ := (pt.below hS).six
    obtain ⟨y0, y1, y2, y3, y4, y5⟩ := (pu.below hS).six
    by_cases hlt : j < n
    ·
     have hi6 : decide (j < n) = true := decide_eq_true hlt
     obtain ⟨b, o, rfl, hk⟩ := HK.out (by omega)
     have hbr := below_on hb1 hS
     have hkd := (hk j hlt).below hbr
     have hub := T.kid_bulk HB.out (show j < t.ks.length by rw [HN.out]; exact hlt)
     have hlk := (T.Lents.get t.ks rs j HLS.out (by rw [HN.out]; exact hlt)).below hh hbr
     have hkc := HKC.out j hlt
     obtain ⟨c, hc⟩ : ∃ c, rs.getD j kc0 = c := ⟨_, rfl⟩
     obtain ⟨a, ha⟩ : ∃ a, t.ks.getD j t0 = a := ⟨_, rfl⟩
     rw [ha] at hkd hub hlk
     rw [hc] at hlk hkc
     clear ha hc hk
     obtain ⟨gn', gm', gk', rs', hcc, -⟩ := hlk.open
     subst hcc
     obtain ⟨B1, b1, B2, b2, B3, b3, h6, hkin⟩ := hkd
     obtain ⟨f0, f1, f2, f3, f4, f5⟩ := h6
     have e0 : wr.cell? ⟨kg, j * 6, none⟩ = some (.int .i64 a.k) := keep_cell (show w.cell? ⟨kg, j * 6, none⟩ = some (.int .i64 a.k) from hkc 0 (by omega)) hbr
     have e1 : wr.cell? ⟨kg, j * 6 + 1, none⟩ = some (.string a.nm) := keep_cell (hkc 1 (by omega)) hbr
     have e2 : wr.cell? ⟨kg, j * 6 + 2, none⟩ = some (.slice (some ⟨gn', 0, none⟩) a.ns.length (a.ns.length + 2)) := keep_cell (hkc 2 (by omega)) hbr
     have e3 : wr.cell? ⟨kg, j * 6 + 3, none⟩ = some (.bool a.ng) := keep_cell (hkc 3 (by omega)) hbr
     have e4 : wr.cell? ⟨kg, j * 6 + 4, none⟩ = some (.slice (some ⟨gm', 0, none⟩) a.mg.length (a.mg.length + 2)) := keep_cell (hkc 4 (by omega)) hbr
     have e5 : wr.cell? ⟨kg, j * 6 + 5, none⟩ = some (.slice (some ⟨gk', 0, none⟩) a.ks.length (a.ks.length + 1)) := keep_cell (hkc 5 (by omega)) hbr
     have HI := Lib.hid (fun (w' : World) (hb : Below wr.heap.size wr w') => hkin.below hb)
     have HLK := Lib.hid (fun (w' : World) (hb : Below wr.heap.size wr w') => hlk.below (Nat.le_trans hh hbr.size) hb)
     have HH := Lib.hid (fun (w' : World) (hb : Below wr.heap.size wr w') => Nat.le_trans (Nat.le_trans hh hbr.size) hb.size)
     have hi0 : (0 : Int) ≤ j := by omega
     have hi1 : (j : Int) < n := by omega
     have hS0 : ∀ w', Below wr.heap.size wr w' → (fun w' => (w'.cell? ⟨Bt, 5, none⟩ = some (.slice (some ⟨kg, 0, none⟩) n (n + 1)) ∧ w'.cell? ⟨Bt + 1, 5, none⟩ = some (.slice (some ⟨b, o, none⟩) n c3) ∧ w'.cell? ⟨kg, j * 6, none⟩ = some (.int .i64 a.k) ∧ w'.cell? ⟨kg, j * 6 + 1, none⟩ = some (.string a.nm) ∧ w'.cell? ⟨kg, j * 6 + 2, none⟩ = some (.slice (some ⟨gn', 0, none⟩) a.ns.length (a.ns.length + 2)) ∧ w'.cell? ⟨kg, j * 6 + 3, none⟩ = some (.bool a.ng) ∧ w'.cell? ⟨kg, j * 6 + 4, none⟩ = some (.slice (some ⟨gm', 0, none⟩) a.mg.length (a.mg.length + 2)) ∧ w'.cell? ⟨kg, j * 6 + 5, none⟩ = some (.slice (some ⟨gk', 0, none⟩) a.ks.length (a.ks.length + 1)) ∧ w'.cell? ⟨b, o + j * 6, none⟩ = some (.int .i64 a.k) ∧ w'.cell? ⟨b, o + j * 6 + 1, none⟩ = some (.string a.nm) ∧ w'.cell? ⟨b, o + j * 6 + 2, none⟩ = some (.slice B1 a.ns.length b1) ∧ w'.cell? ⟨b, o + j * 6 + 3, none⟩ = some (.bool a.ng) ∧ w'.cell? ⟨b, o + j * 6 + 4, none⟩ = some (.slice B2 a.mg.length b2) ∧ w'.cell? ⟨b, o + j * 6 + 5, none⟩ = some (.slice B3 a.ks.length b3)) ∧ Below wr.heap.size wr w') w' := fun w' h =>
      ⟨⟨keep_cell x5 h, keep_cell y5 h, keep_cell e0 h, keep_cell e1 h, keep_cell e2 h, keep_cell e3 h, keep_cell e4 h, keep_cell e5 h, keep_cell f0 h, keep_cell f1 h, keep_cell f2 h, keep_cell f3 h, keep_cell f4 h, keep_cell f5 h⟩, h⟩
     have HS0 := Lib.hid hS0
     have HSW := Lib.hid hS
     clear hkin hlk hS0 hS hkc hbr
     go_upto_region 11 with (fail)
     have hS : Below wr.heap.size wr wr := Below.refl _ _
     clear x0 x1 x2 x3 x4 x5 y0 y1 y2 y3 y4 y5 e0 e1 e2 e3 e4 e5 f0 f1 f2 f3 f4 f5
     go_region_held3 (fun w' => (w'.cell? ⟨Bt, 5, none⟩ = some (.slice (some ⟨kg, 0, none⟩) n (n + 1)) ∧ w'.cell? ⟨Bt + 1, 5, none⟩ = some (.slice (some ⟨b, o, none⟩) n c3) ∧ w'.cell? ⟨kg, j * 6, none⟩ = some (.int .i64 a.k) ∧ w'.cell? ⟨kg, j * 6 + 1, none⟩ = some (.string a.nm) ∧ w'.cell? ⟨kg, j * 6 + 2, none⟩ = some (.slice (some ⟨gn', 0, none⟩) a.ns.length (a.ns.length + 2)) ∧ w'.cell? ⟨kg, j * 6 + 3, none⟩ = some (.bool a.ng) ∧ w'.cell? ⟨kg, j * 6 + 4, none⟩ = some (.slice (some ⟨gm', 0, none⟩) a.mg.length (a.mg.length + 2)) ∧ w'.cell? ⟨kg, j * 6 + 5, none⟩ = some (.slice (some ⟨gk', 0, none⟩) a.ks.length (a.ks.length + 1)) ∧ w'.cell? ⟨b, o + j * 6, none⟩ = some (.int .i64 a.k) ∧ w'.cell? ⟨b, o + j * 6 + 1, none⟩ = some (.string a.nm) ∧ w'.cell? ⟨b, o + j * 6 + 2, none⟩ = some (.slice B1 a.ns.length b1) ∧ w'.cell? ⟨b, o + j * 6 + 3, none⟩ = some (.bool a.ng) ∧ w'.cell? ⟨b, o + j * 6 + 4, none⟩ = some (.slice B2 a.mg.length b2) ∧ w'.cell? ⟨b, o + j * 6 + 5, none⟩ = some (.slice B3 a.ks.length b3)) ∧ Below wr.heap.size wr w')
      (first | exact HS0.out _ (by with_reducible assumption) | exact HS0.out _ (Below.drew (by with_reducible assumption)))
      (first
        | (go_at_call 21; refine (ih a _ lo hi _ R _ hub (by omega) (HLK.out _ (s_below (by with_reducible assumption))) (HH.out _ (s_below (by with_reducible assumption))) (HI.out _ (s_below (by with_reducible assumption)))).mono ?_; rintro e wn ⟨rfl, hb⟩; have hS2 := below_on (s_below (by with_reducible assumption)) hb; clear hS; have hS := hS2; clear hS2 hb))
     replace hS := below_on HSW.out hS
     go_wp2_with fail
     go_roundg (n - j)
     case measure => omega
     case rel => exact ⟨j + 1, by omega, by omega, by go_num, hS⟩
    · have hi6 : decide (j < n) = false := decide_eq_false hlt
      obtain rfl : j = n := by omega
      have hbr := below_on hb1 hS
      go_wp2_with (go_at_call 13; refine (HE.out _ hbr hN2).mono ?_; rintro e w5 ⟨rfl, hb5⟩)
      go_ret
      exact ⟨rfl, below_on hbr hb5⟩
end
end Go.Proofs.YthiadenmljbdaaaGreatDoor
