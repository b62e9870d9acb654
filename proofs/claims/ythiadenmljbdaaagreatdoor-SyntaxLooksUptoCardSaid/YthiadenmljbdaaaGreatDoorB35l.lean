/-
  l: the parts KForm KPrint KKnown.
-/
import Derived.Test.YthiadenmljbdaaaGreatDoorB31l
import Derived.Test.YthiadenmljbdaaaGreatDoorB29l
import Derived.Test.YthiadenmljbdaaaGreatDoorB26l
import Derived.Test.YthiadenmljbdaaaGreatDoorB9l
import Derived.Test.YthiadenmljbdaaaGreatDoorB7l
import Derived.Test.YthiadenmljbdaaaGreatDoorB20l
namespace Go.Proofs.YthiadenmljbdaaaGreatDoor
section
open Go.RowKit
open Go.Shelf
theorem term_addK (t u : T) (IT : TermW t) (IU : TermW u) : TermW (P.nd 4 [t, u]) := by
 obtain ⟨e0, e1⟩ := termB_two 4 43 (by decide) t u (P.body_add t u)
 intro B b bs tg w R v h hR hIs hlen hBw
 cases tg
 ·
  rw [e0] at hlen ⊢
  refine (term_add0 t u IT IU B b bs w R v h hR hIs (by simp only [List.length_append, List.length_cons, List.length_nil] at hlen; omega) hBw).mono ?_
  rintro e w' ⟨rfl, h1, hb, hk⟩
  refine ⟨rfl, ?_, hb, hk⟩
  have e : bs ++ Lib.byteCells (termB t false ++ ([32, 43, 32] ++ termB u true)) = ((bs ++ Lib.byteCells (termB t false)) ++ Lib.strCells ⟨#[32, 43, 32]⟩) ++ Lib.byteCells (termB u true) := by simp [Lib.byteCells, Lib.strCells]
  rw [e]; exact h1
 ·
  rw [e1] at hlen ⊢
  refine (term_add1 t u IT IU B b bs w R v h hR hIs (by simp only [List.length_append, List.length_cons, List.length_nil] at hlen; omega) hBw).mono ?_
  rintro e w' ⟨rfl, h1, hb, hk⟩
  refine ⟨rfl, ?_, hb, hk⟩
  have e : bs ++ Lib.byteCells (40 :: ((termB t false ++ ([32, 43, 32] ++ termB u true)) ++ [41])) = ((((bs ++ [Value.int .u8 40]) ++ Lib.byteCells (termB t false)) ++ Lib.strCells ⟨#[32, 43, 32]⟩) ++ Lib.byteCells (termB u true)) ++ [Value.int .u8 41] := by simp [Lib.byteCells, Lib.strCells]
  rw [e]; exact h1
theorem term_subK (t u : T) (IT : TermW t) (IU : TermW u) : TermW (P.nd 5 [t, u]) := by
 obtain ⟨e0, e1⟩ := termB_two 5 45 (by decide) t u (P.body_sub t u)
 intro B b bs tg w R v h hR hIs hlen hBw
 cases tg
 ·
  rw [e0] at hlen ⊢
  refine (term_sub0 t u IT IU B b bs w R v h hR hIs (by simp only [List.length_append, List.length_cons, List.length_nil] at hlen; omega) hBw).mono ?_
  rintro e w' ⟨rfl, h1, hb, hk⟩
  refine ⟨rfl, ?_, hb, hk⟩
  have e : bs ++ Lib.byteCells (termB t false ++ ([32, 45, 32] ++ termB u true)) = ((bs ++ Lib.byteCells (termB t false)) ++ Lib.strCells ⟨#[32, 45, 32]⟩) ++ Lib.byteCells (termB u true) := by simp [Lib.byteCells, Lib.strCells]
  rw [e]; exact h1
 ·
  rw [e1] at hlen ⊢
  refine (term_sub1 t u IT IU B b bs w R v h hR hIs (by simp only [List.length_append, List.length_cons, List.length_nil] at hlen; omega) hBw).mono ?_
  rintro e w' ⟨rfl, h1, hb, hk⟩
  refine ⟨rfl, ?_, hb, hk⟩
  have e : bs ++ Lib.byteCells (40 :: ((termB t false ++ ([32, 45, 32] ++ termB u true)) ++ [41])) = ((((bs ++ [Value.int .u8 40]) ++ Lib.byteCells (termB t false)) ++ Lib.strCells ⟨#[32, 45, 32]⟩) ++ Lib.byteCells (termB u true)) ++ [Value.int .u8 41] := by simp [Lib.byteCells, Lib.strCells]
  rw [e]; exact h1
theorem form_kn : FormW knT := by
 have hX : TermW knX := term_name _
 have hY : TermW knY := term_name _
 have h1 : TermW kn1 := term_num [1] (by decide)
 have hlt : FormW (P.nd 9 [knX, kn1]) := form_plain _ (show 5 ≤ 6 by decide) rfl (body_9 _ rfl (atom_9 _ _ hX h1) (fun last => by unfold bodyB atomB; rw [P.body_cmp (by decide), P.body_cmp (by decide)]))
 have hnot : FormW (P.nd 16 [P.nd 9 [knX, kn1]]) := form_plain _ (show 5 ≤ 5 by decide) rfl (body_16 _ hlt)
 have hdiv : FormW (.node 15 ⟨#[]⟩ [] false [2] [P.nd 5 [knX, P.nd 4 [knY, kn1]]]) := form_plain _ (show 5 ≤ 6 by decide) rfl (body_15 _ rfl (atom_div [2] (by decide) _ (term_subK _ _ hX (term_addK _ _ hY h1))) (fun last => by unfold bodyB atomB; rw [P.body_div, P.body_div]))
 have hsome : FormW (.node 21 ⟨#[]⟩ [⟨#[121]⟩] false [] [.node 15 ⟨#[]⟩ [] false [2] [P.nd 5 [knX, P.nd 4 [knY, kn1]]]]) := form_21 _ rfl (body_21 ⟨#[121]⟩ [] _ (by decide) hdiv)
 refine form_18 _ rfl (body_18 _ rfl [_, _] rfl (fun k hk => ?_) (by simp) (by simp) (fun last => ?_))
 · rcases List.mem_cons.1 hk with rfl | hk
   · exact hnot
   · obtain rfl := List.mem_singleton.1 hk
     exact hsome
 · unfold bodyB
   rw [knT, P.body_or]
   simp only [P.bytes_append]
   rfl
end
section
open Go.RowKit
open Go.Shelf
attribute [local go_sem] Oper.semAt_some
set_option maxHeartbeats 3200000 in
set_option maxRecDepth 100000 in
theorem print_of (t : T) (hN : t.bulk ≤ 1048576) (hz : t.chk = 0) (hform : FormW t) (l : List UInt8) (hl : P.said t = l) (hne : l ≠ []) (hlt : ¬ 4096 < l.length) (w : World) (R : Nat → Prop) (v : Value) (h : T.In w R t v) :
    Calls Tryz.prog 18 #[v] w fun e w' => e = .returned (.tuple #[.string ⟨l.toArray⟩, .int .i64 0]) ∧ Below w.heap.size w w' := by
  have hIn := h
  obtain ⟨A1, c1, A2, c2, A3, c3, rfl, _⟩ := h.form
  obtain ⟨nm, hnm⟩ : ∃ x, t.nm = x := ⟨_, rfl⟩
  obtain ⟨ng, hng⟩ : ∃ x, t.ng = x := ⟨_, rfl⟩
  obtain ⟨n1, hn1⟩ : ∃ x, t.ns.length = x := ⟨_, rfl⟩
  obtain ⟨n2, hn2⟩ : ∃ x, t.mg.length = x := ⟨_, rfl⟩
  obtain ⟨n3, hn3⟩ : ∃ x, t.ks.length = x := ⟨_, rfl⟩
  obtain ⟨kk, hkk⟩ : ∃ x, t.k = x := ⟨_, rfl⟩
  rw [hkk, hnm, hng, hn1, hn2, hn3] at hIn ⊢
  clear h hnm hng hn1 hn2 hn3 hkk
  unfold tv at hIn ⊢
  have hIn2 := in_lt t _ hIn
  obtain ⟨W, hW, ps, hbW⟩ := made_blk w #[.int .i64 kk, .string nm, .slice A1 n1 c1, .bool ng, .slice A2 n2 c2, .slice A3 n3 c3] 28
  obtain ⟨g, hg⟩ : ∃ g, g = w.heap.size := ⟨_, rfl⟩
  have HI1 := Lib.hid (hIn.below hbW)
  have HI2 := Lib.hid (hIn2.below hbW)
  have HBW := Lib.hid hbW
  rw [← hg] at ps
  have hsz := hbW.size
  clear hbW hIn hIn2
  have HZ := Lib.hid hz
  have HF := Lib.hid hform
  have HS0 := Lib.hid hne
  have hfs : formB 1 true t = l := hl
  have hsl : l.length ≤ 4096 := by omega
  have HFS := Lib.hid hfs
  clear hform hne hfs hz hl
  have d1 : decide ((l.length : Int) > 4096) = false := by simp; omega
  have d2 : decide ((4096 : Int) < (l.length : Int)) = false := by simp; omega
  go_enter Tryz.func18, Tryz.ntmps18
  go_upto_region 1 with (fail)
  rw [← hW, ← hg]
  clear hW hg
  obtain ⟨x0, x1, x2, x3, x4, x5⟩ := ps.six
  go_upto_region 4 with (go_at_call 19; refine (check_t t _ R _ hN HI1.out).mono ?_; rw [HZ.out]; rintro e w2 ⟨rfl, hb2⟩; have ps2 := ps.below hb2; have HI3 := Lib.hid (HI2.out.below hb2); have HBW2 := Lib.hid (below_on HBW.out hb2); have hs2 := hb2.size; clear x0 x1 x2 x3 x4 x5 hb2; obtain ⟨x0, x1, x2, x3, x4, x5⟩ := ps2.six)
  obtain ⟨V, hV, hIs, hbV⟩ : ∃ V : World, V = w2.alloc (.cells #[.pointer none, .slice none 0 0] TW) ∧ Lib.IsBuilder TW TB w2.heap.size w2.heap.size [] V ∧ Below w2.heap.size w2 V := ⟨_, rfl, Lib.fresh_isBuilder _ _ _, below_alloc1 _ _⟩
  obtain ⟨b, hb⟩ : ∃ b, b = w2.heap.size := ⟨_, rfl⟩
  have HI4 := Lib.hid (HI3.out.below hbV)
  have hRb : ∀ g, (R g ∧ g < w.heap.size) → g < b := fun g h => by have := h.2; omega
  have HR := Lib.hid hRb
  have HBW3 := Lib.hid (below_on HBW2.out hbV)
  have hwb : w.heap.size ≤ b := by omega
  have hBV : b ≤ V.heap.size := by have := hbV.size; omega
  have ps3 := ps2.below hbV
  go_upto_region 5 with (fail)
  rw [← hV, ← hb]
  rw [← hb] at hIs
  clear x0 x1 x2 x3 x4 x5 hV hb hbV hRb ps ps2 hs2 hsz
  obtain ⟨x0, x1, x2, x3, x4, x5⟩ := ps3.six
  have hl0 : ([] : List Value).length + (formB 1 true t).length ≤ 140737488355328 := by rw [HFS.out, List.length_nil]; omega
  go_upto_region 6 with (go_at_call 43; refine (HF.out b b [] 1 true V _ _ (by decide) HI4.out HR.out hIs hl0 hBV).mono ?_; rw [HFS.out, List.nil_append]; rintro e w3 ⟨rfl, h3, hb3, hk3⟩)
  have hb33 := hb3.mono hwb
  have H3 := Lib.hid h3
  clear h3 hk3 hIs
  go_wp2_with (first
   | (go_at_call 44; refine (len_w b b _ _ (.inr H3.out)).mono ?_; rw [Lib.byteCells_length]; rintro e w4 ⟨rfl, rfl⟩)
   | (go_at_call 45; refine (string_w b b l _ (.inr H3.out) HS0.out).mono ?_; rintro e w5 ⟨rfl, hb5⟩))
  go_ret2
  exact ⟨rfl, HBW3.out.trans (hb33.trans (hb5.mono hwb))⟩
theorem print_kn (w : World) (R : Nat → Prop) (v : Value) (h : T.In w R knT v) :
    Calls Tryz.prog 18 #[v] w fun e w' => e = .returned (.tuple #[.string ⟨#[110, 111, 116, 32, 120, 32, 60, 32, 49, 32, 111, 114, 32, 115, 111, 109, 101, 32, 121, 32, 46, 32, 50, 32, 100, 105, 118, 105, 100, 101, 115, 32, 120, 32, 45, 32, 40, 121, 32, 43, 32, 49, 41]⟩, .int .i64 0]) ∧ Below w.heap.size w w' :=
  print_of knT (by decide) kn_chk form_kn knP.data.toList kn_said (by decide) (by decide) w R v h
end
section
open Go.RowKit
open Go.Shelf Go.Maps Go.Sort
theorem kn_bulk : knT.bulk ≤ 1048576 := by decide
theorem kn_fv (x : List UInt8) : knT.fv (fun _ => 0) x = decide (x = [120]) := by
 have h1 : ∀ (β : List UInt8 → Int) (x : List UInt8), kn1.fv β x = false := fun β x => by unfold kn1; rw [T.fv, T.fvs]; rfl
 have h2 : ∀ (β : List UInt8 → Int) (x : List UInt8), knX.fv β x = ((β [120] == 0) && decide (x = [120])) := fun β x => by unfold knX; rw [T.fv, T.fvs, Bool.or_false]; rfl
 have h3 : ∀ (β : List UInt8 → Int) (x : List UInt8), knY.fv β x = ((β [121] == 0) && decide (x = [121])) := fun β x => by unfold knY; rw [T.fv, T.fvs, Bool.or_false]; rfl
 unfold knT P.nd
 simp only [T.fv, T.fvs, h1, h2, h3, bnd]
 simp [cntL]
theorem kn_free {L : List (List UInt8)} (h : FreeL knT L) : L.length = 1 := by
 obtain ⟨h1, h2, _⟩ := h
 have h3 : ∀ x, x ∈ L ↔ x = [120] := fun x => by rw [h2 x, kn_fv x, decide_eq_true_eq]
 match L, h1, h3 with
 | [], _, h3 => exact absurd ((h3 [120]).2 rfl) (by simp)
 | [a], _, _ => rfl
 | a :: b :: r, h1, h3 =>
  have ha := (h3 a).1 (by simp)
  have hb := (h3 b).1 (by simp)
  rw [ha, hb] at h1
  simp at h1
theorem parse_kn (w : World) :
    Calls Tryz.prog 12 #[.string ⟨#[110, 111, 116, 40, 120, 60, 49, 41, 111, 114, 32, 115, 111, 109, 101, 32, 121, 46, 50, 32, 100, 105, 118, 105, 100, 101, 115, 32, 120, 45, 40, 121, 43, 49, 41]⟩] w fun ex w' => ∃ A1 c1 A2 c2 A3 c3, ex = .returned (.tuple #[.agg #[.int .i64 18, .string ⟨#[]⟩, .slice A1 0 c1, .bool false, .slice A2 0 c2, .slice A3 2 c3], .agg #[.int .i64 0, .int .i64 0]]) ∧ T.In w' (fun b => w.heap.size ≤ b ∧ b < w'.heap.size) knT (.agg #[.int .i64 18, .string ⟨#[]⟩, .slice A1 0 c1, .bool false, .slice A2 0 c2, .slice A3 2 c3]) ∧ Below w.heap.size w w' := by
  have := parse_x w knS
  rw [kn_res] at this
  refine this.mono ?_
  rintro ex w' ⟨v, rfl, hg, hb⟩
  have hin := T.GotE.In knT _ _ v (fun b => w.heap.size ≤ b ∧ b < w'.heap.size) hg (fun _ h => h) (fun _ h1 h2 => ⟨h1, h2⟩)
  obtain ⟨A1, c1, A2, c2, A3, c3, rfl⟩ := T.GotE.form hg
  exact ⟨A1, c1, A2, c2, A3, c3, rfl, hin, hb⟩
theorem check_kn (w : World) (R : Nat → Prop) (v : Value) (h : T.In w R knT v) : Calls Tryz.prog 19 #[v] w fun e w' => e = .returned (.int .i64 0) ∧ Below w.heap.size w w' := by
 have := check_t knT w R v kn_bulk h
 rw [kn_chk] at this
 exact this
theorem size_kn (w : World) (R : Nat → Prop) (v : Value) (h : T.In w R knT v) : Calls Tryz.prog 24 #[v] w fun e w' => e = .returned (.int .i64 12) ∧ Below w.heap.size w w' := by
 have := size_t 1048576 knT w R v kn_bulk (Nat.le_refl _) h
 rw [kn_size] at this
 exact this
theorem free_kn (w : World) (R : Nat → Prop) (v : Value) (h : T.In w R knT v) : Calls Tryz.prog 29 #[v] w fun e w' => ∃ A c, e = .returned (.slice A 1 c) ∧ Below w.heap.size w w' := by
 refine (free_t knT w R v kn_bulk h).mono ?_
 rintro e w' ⟨u, L, rfl, hown, hL, hb⟩
 have h1 := kn_free hL
 rw [h1] at hown
 rcases hown.2 with ⟨_, h0⟩ | ⟨g, cap, cur, rfl, _⟩
 · exact absurd h0 (by decide)
 · exact ⟨_, _, rfl, hb⟩
theorem same_kn (w : World) (R R' : Nat → Prop) (t u : T) (v v' : Value) (ht : t.bulk ≤ 1048576) (hu : u.bulk ≤ 1048576) (hs : t.sm u = true) (h : T.In w R t v) (h' : T.In w R' u v') : Calls Tryz.prog 22 #[v, v'] w fun e w' => e = .returned (.bool true) ∧ Below w.heap.size w w' := by
 have := same_w 1048576 t u w R R' v v' ht hu (Nat.le_refl _) h h'
 rw [hs] at this
 exact this
theorem kn_cp : knT.cp.sm knT = true := by kernel_rfl
theorem kn_cpb : knT.cp.bulk ≤ 1048576 := by decide
theorem copy_kn (w : World) (R : Nat → Prop) (v : Value) (h : T.In w R knT v) : Calls Tryz.prog 27 #[v] w fun e w' => ∃ u, e = .returned u ∧ T.In w' (fun _ => True) knT.cp u ∧ Below w.heap.size w w' := by
 refine (copy_t 1048576 knT w R v kn_bulk (Nat.le_refl _) h).mono ?_
 rintro e w' ⟨c, rfl, hn, hb⟩
 exact ⟨_, rfl, hn.In _ _ _ _ _ (fun _ _ _ => trivial), hb⟩
set_option maxRecDepth 100000 in
set_option maxHeartbeats 4000000 in
theorem known_w (w : World) : Calls Tryz.prog 15 #[] w fun e w' => e = .returned (.bool true) ∧ Below w.heap.size w w' := by
 go_enter Tryz.func15, Tryz.ntmps15
 go_upto_region 2 with (go_at_call 12; refine (parse_kn w).mono ?_; rintro ex w1 ⟨A1, c1, A2, c2, A3, c3, rfl, hin, hb1⟩)
 obtain ⟨W1, hW1, ps1, hbW1⟩ := made_blk w1 #[.int .i64 18, .string ⟨#[]⟩, .slice A1 0 c1, .bool false, .slice A2 0 c2, .slice A3 2 c3] 28
 obtain ⟨W, hW, pm, hbW2⟩ : ∃ W : World, W = W1.alloc (.cells #[.int .i64 0, .int .i64 0] 31) ∧ Pair W W1.heap.size 31 (.int .i64 0) (.int .i64 0) ∧ Below W1.heap.size W1 W := ⟨_, rfl, Pair.new _ _ _ _, below_alloc1 _ _⟩
 have hsz : W1.heap.size = w1.heap.size + 1 := by rw [hW1]; simp
 have hbw := below_on hb1 (below_on hbW1 hbW2)
 have HI := Lib.hid (hin.below (below_on hbW1 hbW2))
 have ps := ps1.below hbW2
 rw [hsz] at pm
 rw [hW1] at hW
 rw [← hW]
 obtain ⟨g2, hg2⟩ : ∃ x, x = w1.heap.size + 1 := ⟨_, rfl⟩
 obtain ⟨g, hg⟩ : ∃ x, x = w1.heap.size := ⟨_, rfl⟩
 rw [← hg2] at pm ⊢
 rw [← hg] at ps ⊢
 clear hW hW1 hg hg2 hsz ps1 hbW1 hbW2 hin hb1
 have hV0 := Below.refl W.heap.size W
 obtain ⟨x0, x1, x2, x3, x4, x5⟩ := ps.six
 go_upto_region 3 with (go_at_call 18; refine (print_kn _ _ _ HI.out).mono ?_; rintro e w2 ⟨rfl, hb2⟩)
 have hV1 := below_on hV0 hb2
 clear hb2 x0 x1 x2 x3 x4 x5
 refine wp_region_held_drew (S := fun w' => w'.cell? ⟨g, 0, none⟩ = some (.int .i64 18) ∧ w'.cell? ⟨g, 1, none⟩ = some (.string ⟨#[]⟩) ∧ w'.cell? ⟨g, 2, none⟩ = some (.slice A1 0 c1) ∧ w'.cell? ⟨g, 3, none⟩ = some (.bool false) ∧ w'.cell? ⟨g, 4, none⟩ = some (.slice A2 0 c2) ∧ w'.cell? ⟨g, 5, none⟩ = some (.slice A3 2 c3) ∧ w'.cell? ⟨g2, 0, none⟩ = some (.int .i64 0) ∧ w'.cell? ⟨g2, 1, none⟩ = some (.int .i64 0)) (by kernel_rfl) (by obtain ⟨x0, x1, x2, x3, x4, x5⟩ := (ps.below hV1).six; obtain ⟨_, _, m0, m1⟩ := (pm.below hV1).facts; exact ⟨x0, x1, x2, x3, x4, x5, m0, m1⟩) (fun hHeld => ?_)
 have hV2 := below_on hV1 (below_drew1 w2)
 refine take_at 0 (by kernel_rfl) (by kernel_rfl) (by kernel_rfl) (fun _ _ d _ _ h => by cases d <;> exact h) ⟨_, rfl⟩ (by assumption) (fun o ho => ?_)
 simp only [zg1, zg3, zg4] at ho
 subst ho
 refine ⟨?_, ⟨by rfl, ?_⟩, ?_⟩
 rotate_left
 · intro w hSw
   obtain ⟨x0, x1, x2, x3, x4, x5, m0, m1⟩ := hSw
   (go_simp; try with_reducible rfl)
 (try simp only [Act.put, zs1, zs2, zs3])
 refine take_at 1 (by kernel_rfl) (by kernel_rfl) (by kernel_rfl) (fun _ _ d _ _ h => by cases d <;> exact h) ⟨_, rfl⟩ (by assumption) (fun o ho => ?_)
 simp only [zg1, zg2, zg3, zg4] at ho
 subst ho
 refine ⟨?_, ⟨by rfl, ?_⟩, ?_⟩
 rotate_left
 · intro w hSw
   obtain ⟨x0, x1, x2, x3, x4, x5, m0, m1⟩ := hSw
   (go_simp; try with_reducible rfl)
 (try simp only [Act.put, zs1, zs2, zs3])
 refine take_at 2 (by kernel_rfl) (by kernel_rfl) (by kernel_rfl) (fun _ _ d _ _ h => by cases d <;> exact h) ⟨_, rfl⟩ (by assumption) (fun o ho => ?_)
 simp only [zg1, zg2, zg3, zg4] at ho
 subst ho
 refine ⟨?_, ⟨by rfl, ?_⟩, ?_⟩
 rotate_left
 · intro w hSw
   obtain ⟨x0, x1, x2, x3, x4, x5, m0, m1⟩ := hSw
   (go_simp; try with_reducible rfl)
 (try simp only [Act.put, zs1, zs2, zs3])
 refine take_at 3 (by kernel_rfl) (by kernel_rfl) (by kernel_rfl) (fun _ _ d _ _ h => by cases d <;> exact h) ⟨_, rfl⟩ (by assumption) (fun o ho => ?_)
 simp only [zg1, zg2, zg3, zg4] at ho
 subst ho
 refine ⟨?_, ⟨by rfl, ?_⟩, ?_⟩
 rotate_left
 · intro w hSw
   obtain ⟨x0, x1, x2, x3, x4, x5, m0, m1⟩ := hSw
   (go_simp; try with_reducible rfl)
 (try simp only [Act.put, zs1, zs2, zs3])
 refine take_at 4 (by kernel_rfl) (by kernel_rfl) (by kernel_rfl) (fun _ _ d _ _ h => by cases d <;> exact h) ⟨_, rfl⟩ (by assumption) (fun o ho => ?_)
 simp only [zg1, zg2, zg3, zg4] at ho
 subst ho
 refine ⟨?_, ⟨by rfl, ?_⟩, ?_⟩
 rotate_left
 · intro w hSw
   obtain ⟨x0, x1, x2, x3, x4, x5, m0, m1⟩ := hSw
   (go_simp; try with_reducible rfl)
 (try simp only [Act.put, zs1, zs2, zs3])
 refine take_at 5 (by kernel_rfl) (by kernel_rfl) (by kernel_rfl) (fun _ _ d _ _ h => by cases d <;> exact h) ⟨_, rfl⟩ (by assumption) (fun o ho => ?_)
 simp only [zg1, zg2, zg3, zg4] at ho
 subst ho
 refine ⟨?_, ⟨by rfl, ?_⟩, ?_⟩
 rotate_left
 · intro w hSw
   obtain ⟨x0, x1, x2, x3, x4, x5, m0, m1⟩ := hSw
   (go_simp; try with_reducible rfl)
 (try simp only [Act.put, zs1, zs2, zs3])
 refine take_at 6 (by kernel_rfl) (by kernel_rfl) (by kernel_rfl) (fun _ _ d _ _ h => by cases d <;> exact h) ⟨_, rfl⟩ (by assumption) (fun o ho => ?_)
 simp only [zg1, zg2, zg3, zg4] at ho
 subst ho
 refine ⟨?_, ⟨by rfl, ?_⟩, ?_⟩
 rotate_left
 · intro w hSw
   obtain ⟨x0, x1, x2, x3, x4, x5, m0, m1⟩ := hSw
   (go_simp; try with_reducible rfl)
 (try simp only [Act.put, zs1, zs2, zs3])
 refine take_at 7 (by kernel_rfl) (by kernel_rfl) (by kernel_rfl) (fun _ _ d _ _ h => by cases d <;> exact h) ⟨_, rfl⟩ (by assumption) (fun o ho => ?_)
 simp only [zg1, zg2, zg3, zg4] at ho
 subst ho
 refine ⟨?_, ⟨by rfl, ?_⟩, ?_⟩
 rotate_left
 · intro w hSw
   obtain ⟨x0, x1, x2, x3, x4, x5, m0, m1⟩ := hSw
   (go_simp; try with_reducible rfl)
 (try simp only [Act.put, zs1, zs2, zs3])
 refine take_at 8 (by kernel_rfl) (by kernel_rfl) (by kernel_rfl) (fun _ _ d _ _ h => by cases d <;> exact h) ⟨_, rfl⟩ (by assumption) (fun o ho => ?_)
 simp only [zg1, zg2, zg3, zg4] at ho
 subst ho
 refine ⟨?_, ⟨by rfl, ?_⟩, ?_⟩
 rotate_left
 · intro w hSw
   obtain ⟨x0, x1, x2, x3, x4, x5, m0, m1⟩ := hSw
   (go_simp; try with_reducible rfl)
 (try simp only [Act.put, zs1, zs2, zs3])
 refine take_at 9 (by kernel_rfl) (by kernel_rfl) (by kernel_rfl) (fun _ _ d _ _ h => by cases d <;> exact h) ⟨_, rfl⟩ (by assumption) (fun o ho => ?_)
 simp only [zg1, zg2, zg3, zg4] at ho
 subst ho
 refine ⟨?_, ⟨by rfl, ?_⟩, ?_⟩
 rotate_left
 · intro w hSw
   obtain ⟨x0, x1, x2, x3, x4, x5, m0, m1⟩ := hSw
   (go_simp; try with_reducible rfl)
 (try simp only [Act.put, zs1, zs2, zs3])
 refine take_at 10 (by kernel_rfl) (by kernel_rfl) (by kernel_rfl) (fun _ _ d _ _ h => by cases d <;> exact h) ⟨_, rfl⟩ (by assumption) (fun o ho => ?_)
 simp only [zg1, zg2, zg3, zg4] at ho
 subst ho
 refine ⟨?_, ⟨by rfl, ?_⟩, ?_⟩
 rotate_left
 · intro w hSw
   obtain ⟨x0, x1, x2, x3, x4, x5, m0, m1⟩ := hSw
   (go_simp; try with_reducible rfl)
 (try simp only [Act.put, zs1, zs2, zs3])
 refine take_at 11 (by kernel_rfl) (by kernel_rfl) (by kernel_rfl) (fun _ _ d _ _ h => by cases d <;> exact h) ⟨_, rfl⟩ (by assumption) (fun o ho => ?_)
 simp only [zg1, zg2, zg3, zg4] at ho
 subst ho
 refine ⟨?_, ⟨by rfl, ?_⟩, ?_⟩
 rotate_left
 · intro w hSw
   obtain ⟨x0, x1, x2, x3, x4, x5, m0, m1⟩ := hSw
   (go_simp; try with_reducible rfl)
 (try simp only [Act.put, zs1, zs2, zs3])
 refine take_at 12 (by kernel_rfl) (by kernel_rfl) (by kernel_rfl) (fun _ _ d _ _ h => by cases d <;> exact h) ⟨_, rfl⟩ (by assumption) (fun o ho => ?_)
 simp only [zg1, zg2, zg3, zg4] at ho
 subst ho
 refine ⟨?_, ⟨by rfl, ?_⟩, ?_⟩
 rotate_left
 · intro w hSw
   obtain ⟨x0, x1, x2, x3, x4, x5, m0, m1⟩ := hSw
   (go_simp; try with_reducible rfl)
 (try simp only [Act.put, zs1, zs2, zs3])
 refine wpAnyH_ready (rs := [13]) (by kernel_rfl) (by simp) ?_
 refine ready_at 13 ⟨_, rfl⟩ (fun o ho K hK => ?_) AllReadyH.nil
 simp only [zg1, zg2, zg3, zg4] at ho
 subst ho
 go_simp
 go_at_call 19
 refine (check_kn _ _ _ (HI.out.below hV2)).mono ?_
 rintro e w3 ⟨rfl, hb3⟩
 have hV3 := below_on hV2 hb3
 clear hb3
 refine hK.out _ _ ?_ (fun hHeld2 => ?_)
 · obtain ⟨x0, x1, x2, x3, x4, x5⟩ := (ps.below hV3).six
   obtain ⟨_, _, m0, m1⟩ := (pm.below hV3).facts
   exact ⟨x0, x1, x2, x3, x4, x5, m0, m1⟩
 replace hHeld := hHeld2
 clear hK K hHeld2
 (try simp only [zs1, zs2, zs3])
 refine take_at 14 (by kernel_rfl) (by kernel_rfl) (by kernel_rfl) (fun _ _ d _ _ h => by cases d <;> exact h) ⟨_, rfl⟩ (by assumption) (fun o ho => ?_)
 simp only [zg1, zg2, zg3, zg4] at ho
 subst ho
 refine ⟨?_, ⟨by rfl, ?_⟩, ?_⟩
 rotate_left
 · intro w hSw
   obtain ⟨x0, x1, x2, x3, x4, x5, m0, m1⟩ := hSw
   (go_simp; try with_reducible rfl)
 (try simp only [Act.put, zs1, zs2, zs3])
 refine take_at 15 (by kernel_rfl) (by kernel_rfl) (by kernel_rfl) (fun _ _ d _ _ h => by cases d <;> exact h) ⟨_, rfl⟩ (by assumption) (fun o ho => ?_)
 simp only [zg1, zg2, zg3, zg4] at ho
 subst ho
 refine ⟨?_, ⟨by rfl, ?_⟩, ?_⟩
 rotate_left
 · intro w hSw
   obtain ⟨x0, x1, x2, x3, x4, x5, m0, m1⟩ := hSw
   (go_simp; try with_reducible rfl)
 (try simp only [Act.put, zs1, zs2, zs3])
 refine take_at 16 (by kernel_rfl) (by kernel_rfl) (by kernel_rfl) (fun _ _ d _ _ h => by cases d <;> exact h) ⟨_, rfl⟩ (by assumption) (fun o ho => ?_)
 simp only [zg1, zg2, zg3, zg4] at ho
 subst ho
 refine ⟨?_, ⟨by rfl, ?_⟩, ?_⟩
 rotate_left
 · intro w hSw
   obtain ⟨x0, x1, x2, x3, x4, x5, m0, m1⟩ := hSw
   (go_simp; try with_reducible rfl)
 (try simp only [Act.put, zs1, zs2, zs3])
 refine take_at 17 (by kernel_rfl) (by kernel_rfl) (by kernel_rfl) (fun _ _ d _ _ h => by cases d <;> exact h) ⟨_, rfl⟩ (by assumption) (fun o ho => ?_)
 simp only [zg1, zg2, zg3, zg4] at ho
 subst ho
 refine ⟨?_, ⟨by rfl, ?_⟩, ?_⟩
 rotate_left
 · intro w hSw
   obtain ⟨x0, x1, x2, x3, x4, x5, m0, m1⟩ := hSw
   (go_simp; try with_reducible rfl)
 (try simp only [Act.put, zs1, zs2, zs3])
 refine wpAnyH_ready (rs := [18]) (by kernel_rfl) (by simp) ?_
 refine ready_at 18 ⟨_, rfl⟩ (fun o ho K hK => ?_) AllReadyH.nil
 simp only [zg1, zg2, zg3, zg4] at ho
 subst ho
 go_simp
 go_at_call 24
 refine (size_kn _ _ _ (HI.out.below hV3)).mono ?_
 rintro e w4 ⟨rfl, hb4⟩
 have hV4 := below_on hV3 hb4
 clear hb4
 refine hK.out _ _ ?_ (fun hHeld2 => ?_)
 · obtain ⟨x0, x1, x2, x3, x4, x5⟩ := (ps.below hV4).six
   obtain ⟨_, _, m0, m1⟩ := (pm.below hV4).facts
   exact ⟨x0, x1, x2, x3, x4, x5, m0, m1⟩
 replace hHeld := hHeld2
 clear hK K hHeld2
 (try simp only [zs1, zs2, zs3])
 refine take_at 19 (by kernel_rfl) (by kernel_rfl) (by kernel_rfl) (fun _ _ d _ _ h => by cases d <;> exact h) ⟨_, rfl⟩ (by assumption) (fun o ho => ?_)
 simp only [zg1, zg2, zg3, zg4] at ho
 subst ho
 refine ⟨?_, ⟨by rfl, ?_⟩, ?_⟩
 rotate_left
 · intro w hSw
   obtain ⟨x0, x1, x2, x3, x4, x5, m0, m1⟩ := hSw
   (go_simp; try with_reducible rfl)
 (try simp only [Act.put, zs1, zs2, zs3])
 refine take_at 20 (by kernel_rfl) (by kernel_rfl) (by kernel_rfl) (fun _ _ d _ _ h => by cases d <;> exact h) ⟨_, rfl⟩ (by assumption) (fun o ho => ?_)
 simp only [zg1, zg2, zg3, zg4] at ho
 subst ho
 refine ⟨?_, ⟨by rfl, ?_⟩, ?_⟩
 rotate_left
 · intro w hSw
   obtain ⟨x0, x1, x2, x3, x4, x5, m0, m1⟩ := hSw
   (go_simp; try with_reducible rfl)
 (try simp only [Act.put, zs1, zs2, zs3])
 refine take_at 21 (by kernel_rfl) (by kernel_rfl) (by kernel_rfl) (fun _ _ d _ _ h => by cases d <;> exact h) ⟨_, rfl⟩ (by assumption) (fun o ho => ?_)
 simp only [zg1, zg2, zg3, zg4] at ho
 subst ho
 refine ⟨?_, ⟨by rfl, ?_⟩, ?_⟩
 rotate_left
 · intro w hSw
   obtain ⟨x0, x1, x2, x3, x4, x5, m0, m1⟩ := hSw
   (go_simp; try with_reducible rfl)
 (try simp only [Act.put, zs1, zs2, zs3])
 refine take_at 22 (by kernel_rfl) (by kernel_rfl) (by kernel_rfl) (fun _ _ d _ _ h => by cases d <;> exact h) ⟨_, rfl⟩ (by assumption) (fun o ho => ?_)
 simp only [zg1, zg2, zg3, zg4] at ho
 subst ho
 refine ⟨?_, ⟨by rfl, ?_⟩, ?_⟩
 rotate_left
 · intro w hSw
   obtain ⟨x0, x1, x2, x3, x4, x5, m0, m1⟩ := hSw
   (go_simp; try with_reducible rfl)
 (try simp only [Act.put, zs1, zs2, zs3])
 refine wpAnyH_ready (rs := [23]) (by kernel_rfl) (by simp) ?_
 refine ready_at 23 ⟨_, rfl⟩ (fun o ho K hK => ?_) AllReadyH.nil
 simp only [zg1, zg2, zg3, zg4] at ho
 subst ho
 go_simp
 go_at_call 29
 refine (free_kn _ _ _ (HI.out.below hV4)).mono ?_
 rintro e w5 ⟨F1, f1, rfl, hb5⟩
 have hV5 := below_on hV4 hb5
 clear hb5
 refine hK.out _ _ ?_ (fun hHeld2 => ?_)
 · obtain ⟨x0, x1, x2, x3, x4, x5⟩ := (ps.below hV5).six
   obtain ⟨_, _, m0, m1⟩ := (pm.below hV5).facts
   exact ⟨x0, x1, x2, x3, x4, x5, m0, m1⟩
 replace hHeld := hHeld2
 clear hK K hHeld2
 (try simp only [zs1, zs2, zs3])
 refine take_at 24 (by kernel_rfl) (by kernel_rfl) (by kernel_rfl) (fun _ _ d _ _ h => by cases d <;> exact h) ⟨_, rfl⟩ (by assumption) (fun o ho => ?_)
 simp only [zg1, zg2, zg3, zg4] at ho
 subst ho
 refine ⟨?_, ⟨by rfl, ?_⟩, ?_⟩
 rotate_left
 · intro w hSw
   obtain ⟨x0, x1, x2, x3, x4, x5, m0, m1⟩ := hSw
   (go_simp; try with_reducible rfl)
 (try simp only [Act.put, zs1, zs2, zs3])
 refine take_at 25 (by kernel_rfl) (by kernel_rfl) (by kernel_rfl) (fun _ _ d _ _ h => by cases d <;> exact h) ⟨_, rfl⟩ (by assumption) (fun o ho => ?_)
 simp only [zg1, zg2, zg3, zg4] at ho
 subst ho
 refine ⟨?_, ⟨by rfl, ?_⟩, ?_⟩
 rotate_left
 · intro w hSw
   obtain ⟨x0, x1, x2, x3, x4, x5, m0, m1⟩ := hSw
   (go_simp; try with_reducible rfl)
 (try simp only [Act.put, zs1, zs2, zs3])
 refine take_at 26 (by kernel_rfl) (by kernel_rfl) (by kernel_rfl) (fun _ _ d _ _ h => by cases d <;> exact h) ⟨_, rfl⟩ (by assumption) (fun o ho => ?_)
 simp only [zg1, zg2, zg3, zg4] at ho
 subst ho
 refine ⟨?_, ⟨by rfl, ?_⟩, ?_⟩
 rotate_left
 · intro w hSw
   obtain ⟨x0, x1, x2, x3, x4, x5, m0, m1⟩ := hSw
   (go_simp; try with_reducible rfl)
 (try simp only [Act.put, zs1, zs2, zs3])
 refine take_at 27 (by kernel_rfl) (by kernel_rfl) (by kernel_rfl) (fun _ _ d _ _ h => by cases d <;> exact h) ⟨_, rfl⟩ (by assumption) (fun o ho => ?_)
 simp only [zg1, zg2, zg3, zg4] at ho
 subst ho
 refine ⟨?_, ⟨by rfl, ?_⟩, ?_⟩
 rotate_left
 · intro w hSw
   obtain ⟨x0, x1, x2, x3, x4, x5, m0, m1⟩ := hSw
   (go_simp; try with_reducible rfl)
 (try simp only [Act.put, zs1, zs2, zs3])
 refine take_at 28 (by kernel_rfl) (by kernel_rfl) (by kernel_rfl) (fun _ _ d _ _ h => by cases d <;> exact h) ⟨_, rfl⟩ (by assumption) (fun o ho => ?_)
 simp only [zg1, zg2, zg3, zg4] at ho
 subst ho
 refine ⟨?_, ⟨by rfl, ?_⟩, ?_⟩
 rotate_left
 · intro w hSw
   obtain ⟨x0, x1, x2, x3, x4, x5, m0, m1⟩ := hSw
   (go_simp; try with_reducible rfl)
 (try simp only [Act.put, zs1, zs2, zs3])
 refine take_at 29 (by kernel_rfl) (by kernel_rfl) (by kernel_rfl) (fun _ _ d _ _ h => by cases d <;> exact h) ⟨_, rfl⟩ (by assumption) (fun o ho => ?_)
 simp only [zg1, zg2, zg3, zg4] at ho
 subst ho
 refine ⟨?_, ⟨by rfl, ?_⟩, ?_⟩
 rotate_left
 · intro w hSw
   obtain ⟨x0, x1, x2, x3, x4, x5, m0, m1⟩ := hSw
   (go_simp; try with_reducible rfl)
 (try simp only [Act.put, zs1, zs2, zs3])
 refine wpAnyH_ready (rs := [30]) (by kernel_rfl) (by simp) ?_
 refine ready_at 30 ⟨_, rfl⟩ (fun o ho K hK => ?_) AllReadyH.nil
 simp only [zg1, zg2, zg3, zg4] at ho
 subst ho
 go_simp
 go_at_call 22
 refine (same_kn _ _ _ knT knT _ _ kn_bulk kn_bulk (T.sm_self _) (HI.out.below hV5) (HI.out.below hV5)).mono ?_
 rintro e w6 ⟨rfl, hb6⟩
 have hV6 := below_on hV5 hb6
 clear hb6
 refine hK.out _ _ ?_ (fun hHeld2 => ?_)
 · obtain ⟨x0, x1, x2, x3, x4, x5⟩ := (ps.below hV6).six
   obtain ⟨_, _, m0, m1⟩ := (pm.below hV6).facts
   exact ⟨x0, x1, x2, x3, x4, x5, m0, m1⟩
 replace hHeld := hHeld2
 clear hK K hHeld2
 (try simp only [zs1, zs2, zs3])
 refine take_at 31 (by kernel_rfl) (by kernel_rfl) (by kernel_rfl) (fun _ _ d _ _ h => by cases d <;> exact h) ⟨_, rfl⟩ (by assumption) (fun o ho => ?_)
 simp only [zg1, zg2, zg3, zg4] at ho
 subst ho
 refine ⟨?_, ⟨by rfl, ?_⟩, ?_⟩
 rotate_left
 · intro w hSw
   obtain ⟨x0, x1, x2, x3, x4, x5, m0, m1⟩ := hSw
   (go_simp; try with_reducible rfl)
 (try simp only [Act.put, zs1, zs2, zs3])
 refine take_at 32 (by kernel_rfl) (by kernel_rfl) (by kernel_rfl) (fun _ _ d _ _ h => by cases d <;> exact h) ⟨_, rfl⟩ (by assumption) (fun o ho => ?_)
 simp only [zg1, zg2, zg3, zg4] at ho
 subst ho
 refine ⟨?_, ⟨by rfl, ?_⟩, ?_⟩
 rotate_left
 · intro w hSw
   obtain ⟨x0, x1, x2, x3, x4, x5, m0, m1⟩ := hSw
   (go_simp; try with_reducible rfl)
 (try simp only [Act.put, zs1, zs2, zs3])
 refine take_at 33 (by kernel_rfl) (by kernel_rfl) (by kernel_rfl) (fun _ _ d _ _ h => by cases d <;> exact h) ⟨_, rfl⟩ (by assumption) (fun o ho => ?_)
 simp only [zg1, zg2, zg3, zg4] at ho
 subst ho
 refine ⟨?_, ⟨by rfl, ?_⟩, ?_⟩
 rotate_left
 · intro w hSw
   obtain ⟨x0, x1, x2, x3, x4, x5, m0, m1⟩ := hSw
   (go_simp; try with_reducible rfl)
 (try simp only [Act.put, zs1, zs2, zs3])
 refine take_at 35 (by kernel_rfl) (by kernel_rfl) (by kernel_rfl) (fun _ _ d _ _ h => by cases d <;> exact h) ⟨_, rfl⟩ (by assumption) (fun o ho => ?_)
 simp only [zg1, zg2, zg3, zg4] at ho
 subst ho
 refine ⟨?_, ⟨by rfl, ?_⟩, ?_⟩
 rotate_left
 · intro w hSw
   obtain ⟨x0, x1, x2, x3, x4, x5, m0, m1⟩ := hSw
   (go_simp; try with_reducible rfl)
 (try simp only [Act.put, zs1, zs2, zs3])
 refine wpAnyH_ready (rs := [34]) (by kernel_rfl) (by simp) ?_
 refine ready_at 34 ⟨_, rfl⟩ (fun o ho K hK => ?_) AllReadyH.nil
 simp only [zg1, zg2, zg3, zg4] at ho
 subst ho
 go_simp
 go_at_call 27
 refine (copy_kn _ _ _ (HI.out.below hV6)).mono ?_
 rintro e w7 ⟨u, rfl, hu, hb7⟩
 have hV7 := below_on hV6 hb7
 clear hb7
 refine hK.out _ _ ?_ (fun hHeld2 => ?_)
 · obtain ⟨x0, x1, x2, x3, x4, x5⟩ := (ps.below hV7).six
   obtain ⟨_, _, m0, m1⟩ := (pm.below hV7).facts
   exact ⟨x0, x1, x2, x3, x4, x5, m0, m1⟩
 replace hHeld := hHeld2
 clear hK K hHeld2
 (try simp only [zs1, zs2, zs3])
 refine wpAnyH_ready (rs := [36]) (by kernel_rfl) (by simp) ?_
 refine ready_at 36 ⟨_, rfl⟩ (fun o ho K hK => ?_) AllReadyH.nil
 simp only [zg1, zg2, zg3, zg4] at ho
 subst ho
 go_simp
 go_at_call 22
 refine (same_kn _ _ _ knT.cp knT _ _ kn_cpb kn_bulk kn_cp hu (HI.out.below hV7)).mono ?_
 rintro e w8 ⟨rfl, hb8⟩
 have hV8 := below_on hV7 hb8
 clear hb8
 refine hK.out _ _ ?_ (fun hHeld2 => ?_)
 · obtain ⟨x0, x1, x2, x3, x4, x5⟩ := (ps.below hV8).six
   obtain ⟨_, _, m0, m1⟩ := (pm.below hV8).facts
   exact ⟨x0, x1, x2, x3, x4, x5, m0, m1⟩
 replace hHeld := hHeld2
 clear hK K hHeld2
 (try simp only [zs1, zs2, zs3])
 refine take_at 37 (by kernel_rfl) (by kernel_rfl) (by kernel_rfl) (fun _ _ d _ _ h => by cases d <;> exact h) ⟨_, rfl⟩ (by assumption) (fun o ho => ?_)
 simp only [zg1, zg2, zg3, zg4] at ho
 subst ho
 refine ⟨?_, ⟨by rfl, ?_⟩, ?_⟩
 rotate_left
 · intro w hSw
   obtain ⟨x0, x1, x2, x3, x4, x5, m0, m1⟩ := hSw
   (go_simp; try with_reducible rfl)
 (try simp only [Act.put, zs1, zs2, zs3])
 refine take_at 38 (by kernel_rfl) (by kernel_rfl) (by kernel_rfl) (fun _ _ d _ _ h => by cases d <;> exact h) ⟨_, rfl⟩ (by assumption) (fun o ho => ?_)
 simp only [zg1, zg2, zg3, zg4] at ho
 subst ho
 refine ⟨?_, ⟨by rfl, ?_⟩, ?_⟩
 rotate_left
 · intro w hSw
   obtain ⟨x0, x1, x2, x3, x4, x5, m0, m1⟩ := hSw
   (go_simp; try with_reducible rfl)
 (try simp only [Act.put, List.setIfInBounds_toArray, List.set_cons_zero])
 refine wpAnyH_done (by kernel_rfl) ?_ _
 go_wp2
 go_ret
 exact ⟨rfl, below_on hbw hV8⟩
end
end Go.Proofs.YthiadenmljbdaaaGreatDoor
